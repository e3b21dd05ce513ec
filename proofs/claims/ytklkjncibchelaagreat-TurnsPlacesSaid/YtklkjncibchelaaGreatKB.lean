/- Texts of one proof, put together: see each part. -/
import Derived.Test.YtklkjncibchelaaGreatKA
set_option maxHeartbeats 2000000
noncomputable section
set_option linter.unusedVariables false
set_option linter.unusedSimpArgs false
namespace Go.Bm
section
open Go.RowKit
theorem gZ {s:Nat}:∀(π σ:List Sp),vJ s (π++σ)↔vJ s π∧vJ s σ
 | [],σ=>⟨fun h=>⟨trivial,h⟩,fun h=>h.2⟩
 | .fst::π,σ=>gZ π σ
 | .snd _::π,σ=>gZ π σ
 | .ix _ _::π,σ=>(and_congr_right fun _=>gZ π σ).trans and_assoc.symm
 | .ai _ _ _::π,σ=>(and_congr_right fun _=>gZ π σ).trans and_assoc.symm
theorem fq:∀(π σ:List Sp),b_ (π++σ)=b_ π+b_ σ
 | [],σ=>(Nat.zero_add _).symm
 | .fst::π,σ=>fq π σ
 | .snd c::π,σ=>by show c+b_ (π++σ)=c+b_ π+b_ σ;rw [fq π σ,Nat.add_assoc]
 | .ix i z::π,σ=>by show i*z+b_ (π++σ)=i*z+b_ π+b_ σ;rw [fq π σ,Nat.add_assoc]
 | .ai i n z::π,σ=>by show i*z+b_ (π++σ)=i*z+b_ π+b_ σ;rw [fq π σ,Nat.add_assoc]
section
variable {P:Program} {E:Env} {o:Oper} {ρ:Operand→A} {h:H} {β:Type} {K:A→H→Fp→Option β} {r:β}
theorem Step.vQ {h h':H} {T:Fp} {pv wH:A} (k:Step P o ρ h h' T pv) (hv:∀g v,V g pv v→V g wH v):Step P o ρ h h' T wH where
 out:=k.out
 rd:=k.rd
 ok:=fun S2 hS=>fun r g w a next Q hI hx K'=>k.ok S2 hS r g w a next Q hI hx (fun v g' w' h1 h2 h3=>K' v g' w' (hv _ _ h1) h2 h3)
def vZ (v:A) (k:A→Option β):Option β:=match v with
 | .op r o=>opt o (k (.v (.pointer none))) (fun j=>k (.tp (.cE r j) []))
 | .os r z o=>opt o (k .e0) (fun j=>k (.tw (.cE r j) z))
 | .om r o=>opt o (k (.v (.map none))) (fun j=>k (.mp (.cE r j)))
 | v=>k v
theorem rm {v:A} {k:A→Option β} (hr:vZ v k=some r):∃v',k v'=some r∧∀g x,V g v x→V g v' x:=by
 unfold vZ at hr
 split at hr
 ·rcases eg hr with ⟨e,h1⟩ | ⟨j,e,h1⟩
  ·exact ⟨_,h1,fun g x hv=>by cases hv with | op _ _ _ h0 _=>rw [h0 e];exact .v _⟩
  ·exact ⟨_,h1,fun g x hv=>by cases hv with | op _ _ _ _ h0=>exact h0 j e⟩
 ·rcases eg hr with ⟨e,h1⟩ | ⟨j,e,h1⟩
  ·exact ⟨_,h1,fun g x hv=>by cases hv with | os _ _ _ _ h0 _=>exact h0 e⟩
  ·exact ⟨_,h1,fun g x hv=>by cases hv with | os _ _ _ _ _ h0=>exact h0 j e⟩
 ·rcases eg hr with ⟨e,h1⟩ | ⟨j,e,h1⟩
  ·exact ⟨_,h1,fun g x hv=>by cases hv with | om _ _ _ h0 _=>rw [h0 e];exact .v _⟩
  ·exact ⟨_,h1,fun g x hv=>by cases hv with | om _ _ _ _ h0=>exact h0 j e⟩
 ·exact ⟨_,hr,fun g x hv=>hv⟩
def Out (P:Program) (o:Oper) (ρ:Operand→A) (h:H) (K:A→H→Fp→Option β) (r:β):Prop:=∃pv h' T,K pv h' T=some r∧Step P o ρ h h' T pv
theorem Out.pure {v:A} (hr:K v h .no=some r) (k:∀S2,cL P o ρ S2 S2 v) (hd:∀c,o.op≠.defer c):Out P o ρ h K r:=⟨v,h,.no,hr,.pure k hd⟩
theorem Out.read {v:A} (T:List Nat) (hr:K v h (.rd T)=some r) (k:∀S2,Agree (.rd T) (hp h) S2→cL P o ρ S2 S2 v) (hd:∀c,o.op≠.defer c):Out P o ρ h K r:=⟨v,h,.rd T,hr,.read _ k hd⟩
theorem Out.sp {h':H} {T:Fp} {v:A} (hr:vZ v (fun v=>K v h' T)=some r) (k:Step P o ρ h h' T v):Out P o ρ h K r:=by
 obtain ⟨v',h1,h2⟩:=rm hr
 exact ⟨v',h',T,h1,k.vQ h2⟩
def V3 (x:A) (h:H) (K:A→H→Fp→Option β):Option β:=K x h .no
def FJ (px:A) (ix:Nat) (h:H) (K:A→H→Fp→Option β):Option β:=match px with
 | .eJ cs=>match cs[ix]? with
  | some p=>vZ p (fun v=>K v h .no)
  | none=>none
 | _=>none
theorem Bs {x:Operand} {ix:Nat} (ho:o.op = .extract x ix) (hr:FJ (ρ x) ix h K=some r):Out P o ρ h K r:=by
 unfold FJ at hr
 split at hr
 ·rename_i cs hx
  split at hr
  ·rename_i p hp
   exact .sp hr (.pure (fun S2=>pZ ho hx hp) (by rw [ho];intro c e;cases e))
  ·cases hr
 ·cases hr
def wR (px py pz:A) (h:H) (K:A→H→Fp→Option β):Option β:=match px with
 | .v (.bool b)=>br b (K py h .no) (K pz h .no)
 | _=>none
theorem wQ {x y z:Operand} (ho:o.op = .pick x y z) (hr:wR (ρ x) (ρ y) (ρ z) h K=some r):Out P o ρ h K r:=by
 unfold wR at hr
 split at hr
 ·rename_i b hx
  rcases gh hr with ⟨rfl,h1⟩ | ⟨rfl,h1⟩
  ·exact .pure h1 (fun S2=>by have:=pW (P:=P) (S:=S2) ho hx;simpa using this) (by rw [ho];intro c e;cases e)
  ·exact .pure h1 (fun S2=>by have:=pW (P:=P) (S:=S2) ho hx;simpa using this) (by rw [ho];intro c e;cases e)
 ·cases hr
def Og (op:BinOp) (k:IntKind) (m n:Int) (K:Value→Option β):Option β:=match op with
 | .add=>K (.int k (af k m n))
 | .sub=>K (.int k (aG k m n))
 | .mul=>K (.int k (cB k m n))
 | .quo=>gd (ze n) (K (.int k (AY k m n)))
 | .rem=>gd (ze n) (K (.int k (dc m n)))
 | .and=>K (.int k (bits .and k m n))
 | .or=>K (.int k (bits .or k m n))
 | .xor=>K (.int k (bits .xor k m n))
 | .andNot=>K (.int k (bits .andNot k m n))
 | .eql=>K (.bool (ak m n))
 | .neq=>K (.bool (ax (ak m n)))
 | .lss=>K (.bool (aT m n))
 | .leq=>K (.bool (cD m n))
 | .gtr=>K (.bool (aT n m))
 | .geq=>K (.bool (cD n m))
 | _=>none
theorem BJ {op:BinOp} {k:IntKind} {m n:Int} {K:Value→Option β} (hr:Og op k m n K=some r):∃v,K v=some r∧A5 op k m n=some v:=by
 cases op with
 | quo=>
  obtain ⟨h1,h2⟩:=ba (show gd (ze n) (K (.int k (AY k m n)))=some r from hr)
  exact ⟨_,h2,if_neg h1⟩
 | rem=>
  obtain ⟨h1,h2⟩:=ba (show gd (ze n) (K (.int k (dc m n)))=some r from hr)
  exact ⟨_,h2,if_neg h1⟩
 | _=>first | exact ⟨_,hr,rfl⟩ | cases hr
def VM (op:BinOp) (k:IntKind) (m n:Int) (K:Value→Option β):Option β:=match op with
 | .shl=>gd (bl n) (K (.int k (gL k m n)))
 | .shr=>gd (bl n) (K (.int k (e_ k m n)))
 | _=>none
theorem Em {op:BinOp} {k:IntKind} {m n:Int} {K:Value→Option β} (hr:VM op k m n K=some r):∃v,K v=some r∧rK op k m n=some v:=by
 cases op with
 | shl=>
  obtain ⟨h1,h2⟩:=ba (show gd (bl n) (K (.int k (gL k m n)))=some r from hr)
  exact ⟨_,h2,if_neg (by unfold bl at h1;omega)⟩
 | shr=>
  obtain ⟨h1,h2⟩:=ba (show gd (bl n) (K (.int k (e_ k m n)))=some r from hr)
  exact ⟨_,h2,if_neg (by unfold bl at h1;omega)⟩
 | _=>cases hr
def DK:BinOp→Bool
 | .shl=>true
 | .shr=>true
 | _=>false
def isEq:BinOp→Bool
 | .eql=>true
 | .neq=>true
 | _=>false
theorem gM {op:BinOp} (h:isEq op=true):op = .eql∨op = .neq:=by cases op<;>first | exact .inl rfl | exact .inr rfl | cases h
def uL (op:BinOp) (b:Bool):Bool:=match op with
 | .eql=>b
 | _=>ax b
theorem jZ {op:BinOp} (b:Bool) (h:isEq op=true):uL op b=if op = .eql then b else !b:=by
 rcases gM h with rfl | rfl<;>rfl
def uI (p q:A):Option Bool:=match q with
 | .v (.slice none 0 0)=>match p with
  | .v (.slice none _ _)=>some true
  | .nn _ _=>some false
  | .aa _ _ _ _=>some false
  | .sl _ _ _ _=>some false
  | _=>none
 | _=>none
theorem AG {g:G} {p q:A} {u v:Value} {b:Bool} (h:uI p q=some b) (hp:V g p u) (hq:V g q v):v = .slice none 0 0∧∃A n c,u = .slice A n c∧A.isNone=b:=by
 unfold uI at h
 split at h
 ·cases hq
  refine ⟨rfl,?_⟩
  split at h
  ·cases h;cases hp;exact ⟨_,_,_,rfl,rfl⟩
  ·cases h;cases hp;exact ⟨_,_,_,rfl,rfl⟩
  ·cases h;cases hp;exact ⟨_,_,_,rfl,rfl⟩
  ·cases h;cases hp;exact ⟨_,_,_,rfl,rfl⟩
  ·cases h
 ·cases h
theorem wo (d:Nat) (w:World) {T E:TypeId} (hT:P.underlying T=some (.slice E)) (A:Option Addr) (n c:Nat):(Op.equalIn (d+1) T (.slice A n c) (.slice none 0 0)).run P w = .ok A.isNone w:=by
 cases A<;>simp [Op.equalIn,run_underlying hT]
theorem sD (w:World) {T E:TypeId} (hT:P.underlying T=some (.slice E)) (A:Option Addr) (n c:Nat):(Op.equalIn 10000 T (.slice A n c) (.slice none 0 0)).run P w = .ok A.isNone w:=wo 9999 w hT A n c
theorem Az {S:Hp} {op:BinOp} {T T' E:TypeId} {x y:Operand} {b:Bool} (ho:o.op = .binOp op T x y T') (hT:P.underlying T=some (.slice E)) (pq:op = .eql∨op = .neq)
  (hb:uI (ρ x) (ρ y)=some b):cL P o ρ S S (.v (.bool (if op = .eql then b else !b))):=
 .value fun g w a _ hv=>by
  obtain ⟨e2,A,n,c,h1,h2⟩:=AG hb (hv x (by simp [ho,Op.operands])) (hv y (by simp [ho,Op.operands]))
  have cU:=sD (P:=P) w hT A n c
  rw [h2] at cU
  refine ⟨.bool (if op = .eql then b else !b),?_,.v _⟩
  have fy:(eqGuard op T x y (.slice A n c) (.slice none 0 0)).run P w = .ok () w:=by
   rcases pq with rfl | rfl<;>rfl
  rcases pq with rfl | rfl
  ·have hb:(binOp .eql T (.slice A n c) (.slice none 0 0)).run P w = .ok (.bool b) w:=by
    simp only [binOp];simp [Op.equal,Op.maxDepth,cU]
   simp only [execOp,ho,h1,e2,Sem.run_bind,fy,Result.andThen_ok,if_true,hb,Sem.run_pure]
  ·have hb:(binOp .neq T (.slice A n c) (.slice none 0 0)).run P w = .ok (.bool (!b)) w:=by
    simp only [binOp];simp [Op.equal,Op.maxDepth,cU]
   simp only [execOp,ho,h1,e2,Sem.run_bind,fy,Result.andThen_ok,hb,Sem.run_pure]
   rfl
def yG (E:Env) (op:BinOp) (T:Nat) (px py:A) (h:H) (K:A→H→Fp→Option β):Option β:=match px,py with
 | .v (.int k m),.v (.int k' n)=>bif DK op then VM op k m n (fun v=>K (.v v) h .no) else if k=k' then Og op k m n (fun v=>K (.v v) h .no) else none
 | .v (.bool p),.v (.bool q)=>bif isEq op then (match bM E.cj T with
  | some ⟨.bool,_,_,_,_,_,_⟩=>K (.v (.bool (uL op (vn p q)))) h .no
  | _=>none) else none
 | px,py=>bif isEq op then (match bM E.cj T with
  | some e=>match e.d with
   | .pointer _=>match xd px py with
    | some b=>K (.v (.bool (uL op b))) h .no
    | none=>none
   | .slice _=>match uI px py with
    | some b=>K (.v (.bool (uL op b))) h .no
    | none=>none
   | .struct _=>bif ei px && ei py && E.eqs.any (Nat.beq T) then (match px.cells,py.cells with
    | some cs,some ds=>match pA E 6 T cs ds with
     | some b=>K (.v (.bool (uL op b))) h .no
     | none=>none
    | _,_=>none) else none
   | _=>none
  | none=>none) else none
theorem o4 (hE:bt P E) {op:BinOp} {T T':TypeId} {x y:Operand} (ho:o.op = .binOp op T x y T') (hr:yG E op T (ρ x) (ρ y) h K=some r):Out P o ρ h K r:=by
 have hd:∀c,o.op≠.defer c:=by rw [ho];intro c e;cases e
 unfold yG at hr
 split at hr
 ·rename_i k m k' n hx hy
  cases hs:DK op with
  | true=>
   rw [hs] at hr
   simp only [cond_true] at hr
   obtain ⟨v,h1,h2⟩:=Em hr
   exact .pure h1 (fun S2=>ux ho hx hy h2) hd
  | false=>
   rw [hs] at hr
   simp only [cond_false] at hr
   split at hr
   ·rename_i hk;subst hk
    obtain ⟨v,h1,h2⟩:=BJ hr
    exact .pure h1 (fun S2=>AB ho hx hy h2) hd
   ·cases hr
 ·rename_i p q hx hy
  obtain ⟨hq,hr⟩:=ae hr
  split at hr
  ·rename_i ht
   refine .pure hr (fun S2=>?_) hd
   have:=AA (P:=P) (S:=S2) ho (hE.cj _ _ ht).u hx hy (gM hq)
   rw [jZ _ hq]
   rcases gM hq with rfl | rfl<;>exact this
  ·cases hr
 ·obtain ⟨hq,hr⟩:=ae hr
  split at hr
  ·rename_i e ht
   split at hr
   ·rename_i el vD
    split at hr
    ·rename_i b hb
     refine .pure hr (fun S2=>?_) hd
     rw [jZ _ hq]
     exact uz ho (by rw [(hE.cj _ _ ht).u,vD]) hb (gM hq)
    ·cases hr
   ·rename_i el vD
    split at hr
    ·rename_i b hb
     refine .pure hr (fun S2=>?_) hd
     rw [jZ _ hq]
     exact Az ho (by rw [(hE.cj _ _ ht).u,vD]) (gM hq) hb
    ·cases hr
   ·rename_i fs vD
    obtain ⟨hc,hr⟩:=ae hr
    simp only [zC] at hc
    split at hr
    ·rename_i cs ds h1 h2
     split at hr
     ·rename_i b hb
      refine .pure hr (fun S2=>?_) hd
      rw [jZ _ hq]
      exact uA hE ho ht (by rw [vD];rfl) (hE.eqs _ hc.2) hc.1.1 hc.1.2 h1 h2 hb (by omega) (gM hq)
     ·cases hr
    ·cases hr
   ·cases hr
  ·cases hr
def Po (op:UnOp) (px:A) (h:H) (K:A→H→Fp→Option β):Option β:=match op,px with
 | .not,.v (.bool b)=>K (.v (.bool (ax b))) h .no
 | _,_=>none
theorem Eg {op:UnOp} {T:TypeId} {x:Operand} (ho:o.op = .unOp op T x) (hr:Po op (ρ x) h K=some r):Out P o ρ h K r:=by
 unfold Po at hr
 split at hr
 ·rename_i b hx
  exact .pure hr (fun S2=>Au ho hx) (by rw [ho];intro c e;cases e)
 ·cases hr
def Wz (E:Env) (s d:Nat) (px:A) (h:H) (K:A→H→Fp→Option β):Option β:=match bM E.cj s,bM E.cj d,px with
 | some _,some ⟨.int k',_,_,_,_,_,_⟩,.v (.int k n)=>if k'=k then K (.v (.int k n)) h .no else K (.v (.int k' (cz k' n))) h .no
 | _,_,_=>none
def Td (E:Env) (s d:Nat) (px:A) (h:H) (K:A→H→Fp→Option β):Option β:=match bM E.cj s,bM E.cj d,px with
 | some _,some ⟨.int k',_,_,_,_,_,_⟩,.v (.int _ n)=>K (.v (.int k' (cz k' n))) h .no
 | _,_,_=>none
theorem FY (hE:bt P E) {s d:TypeId} {x:Operand} (ho:o.op = .convert s d x) (hr:Td E s d (ρ x) h K=some r):Out P o ρ h K r:=by
 unfold Td at hr
 split at hr
 ·rename_i es _ _ _ _ _ _ _ _ _ hs jl hx
  exact .pure hr (fun S2=>wZ ho (by rw [(hE.cj _ _ hs).u];rfl) (hE.cj _ _ jl).u hx) (by rw [ho];intro c e;cases e)
 ·cases hr
def Lh (px:A) (h:H) (K:A→H→Fp→Option β):Option β:=bif xz px then K px h .no else none
theorem AI {x:Operand} (ho:o.op = .nilCheck x) (hr:Lh (ρ x) h K=some r):Out P o ρ h K r:=by
 obtain ⟨h1,h2⟩:=ae hr
 exact .pure h2 (fun S2=>oh ho h1) (by rw [ho];intro c e;cases e)
end
end
section
open Go.RowKit
section
variable {P:Program} {E:Env} {o:Oper} {ρ:Operand→A} {h:H} {β:Type} {K:A→H→Fp→Option β} {r:β}
def gT:Nat→Ty→Nat→Option (List Sp)
 | 1,_,0=>some []
 | _+2,.pair _ _,0=>some [.fst]
 | n+2,.pair a b,f+1=>match gT (n+1) b f with
  | some π=>some (.snd a.size::π)
  | none=>none
 | _,_,_=>none
theorem oP {s:Nat}:∀(n:Nat) (t:Ty) (f:Nat) (π:List Sp),gT n t f=some π→vJ s π
 | 0,_,_,_,h=>by simp [gT] at h
 | 1,_,0,_,h=>by simp [gT] at h;subst h;trivial
 | 1,_,f+1,_,h=>by simp [gT] at h
 | n+2,.pair a b,0,_,h=>by simp [gT] at h;subst h;trivial
 | n+2,.pair a b,f+1,_,h=>by
  simp only [gT] at h
  split at h
  ·rename_i π' h'
   cases h
   exact oP (s:=s) (n+1) b f π' h'
  ·cases h
 | n+2,.int _,f,_,h=>by cases f<;>simp [gT] at h
 | n+2,.bool,f,_,h=>by cases f<;>simp [gT] at h
 | n+2,.unit,f,_,h=>by cases f<;>simp [gT] at h
 | n+2,.arr _ _,f,_,h=>by cases f<;>simp [gT] at h
 | n+2,.aF _,f,_,h=>by cases f<;>simp [gT] at h
 | n+2,.ptr _,f,_,h=>by cases f<;>simp [gT] at h
 | n+2,.b6 _,f,_,h=>by cases f<;>simp [gT] at h
 | n+2,.fj _ _,f,_,h=>by cases f<;>simp [gT] at h
 | n+2,.kB _ _,f,_,h=>by cases f<;>simp [gT] at h
 | n+2,.mp _,f,_,h=>by cases f<;>simp [gT] at h
def FE (E:Env) (T f:Nat) (px:A) (h:H) (K:A→H→Fp→Option β):Option β:=match bM E.cj T with
 | some ⟨.struct fs,_,_,_,_,t,_⟩=>match fs[f]? with
  | some fd=>match bM E.cj fd.type with
   | some e=>bif Nat.blt 0 e.size then (match px with
    | .ptr o off=>K (.ptr o (off+fd.offset)) h .no
    | .tp X π=>match t with
     | some t=>match gT fs.size t f with
      | some σ=>bif Nat.beq (b_ σ) fd.offset then K (.tp X (π++σ)) h .no else none
      | none=>none
     | none=>none
    | .dp t x=>match gT fs.size t f with
     | some σ=>bif Nat.beq (b_ σ) fd.offset then (match jF σ t x with
      | some s=>K (.dp s.t s.x) h .no
      | none=>none) else none
     | none=>none
    | _=>none) else none
   | none=>none
  | none=>none
 | _=>none
theorem Bo (hE:bt P E) {T f:Nat} {x:Operand} (ho:o.op = .fieldAddr T x f) (hr:FE E T f (ρ x) h K=some r):Out P o ρ h K r:=by
 have hd:∀c,o.op≠.defer c:=by rw [ho];intro c e;cases e
 unfold FE at hr
 split at hr
 ·rename_i fs _ _ _ _ t _ ht
  split at hr
  ·rename_i fd hf
   split at hr
   ·rename_i e he
    obtain ⟨h0,hr⟩:=ae hr
    have h0:=aQ h0
    have jy:∀{v:A},(∀g u,V g (ρ x) u→∃b off,u = .pointer (some ⟨b,off,none⟩)∧V g v (.pointer (some ⟨b,off+fd.offset,none⟩)))→∀S2,cL P o ρ S2 S2 v:=fun hv S2=>
     uy ho (hE.cj _ _ ht).u hf (hE.cj _ _ he).ti.size (by omega) hv
    split at hr
    ·rename_i q off hx
     refine .pure hr (jy fun g u hu=>?_) hd
     rw [hx] at hu
     cases hu with
     | ptr _ _ b s hb=>exact ⟨b,off,rfl,.ptr _ _ b s hb⟩
    ·rename_i X π hx
     split at hr
     ·rename_i t'
      split at hr
      ·rename_i σ hσ
       obtain ⟨hc,hr⟩:=ae hr
       refine .pure hr (jy fun g u hu=>?_) hd
       rw [hx] at hu
       cases hu with
       | tp _ _ b s hb hk=>
        refine ⟨b,b_ π,rfl,?_⟩
        rw [←beq_eq hc,←fq]
        exact .tp X _ b s hb ((gZ π σ).2 ⟨hk,oP _ _ _ _ hσ⟩)
      ·cases hr
     ·cases hr
    ·rename_i t' y hx
     split at hr
     ·rename_i σ hσ
      obtain ⟨hc,hr⟩:=ae hr
      split at hr
      ·rename_i sg QK
       refine .pure hr (jy fun g u hu=>?_) hd
       rw [hx] at hu
       cases hu with
       | dp _ _ b off f hm=>
        obtain ⟨a,c,q1,q2⟩:=iu σ t' y 0 sg QK (oP _ _ _ _ hσ)
        refine ⟨b,off,rfl,.dp sg.t sg.x b _ (fun j=>f (b_ σ+j)) (fun j d hj=>?_)⟩
        have:=hm (b_ σ+j) d (by
         rw [q1,zJ (by omega),show b_ σ+j-a.length=j by omega,zK (zB.1 hj).1];exact hj)
        rw [←beq_eq hc,Nat.add_assoc]
        exact this
      ·cases hr
     ·cases hr
    ·cases hr
   ·cases hr
  ·cases hr
 ·cases hr
def OD:Nat→Nat→Int→(Nat→Option β)→Option β
 | 0,_,_,_=>none
 | n+1,i,m,k=>br (ak m (zN i)) (k i) (OD n (i+1) m k)
theorem rk {m:Int} {k:Nat→Option β}:∀(n i:Nat),OD n i m k=some r→∃j,k j=some r∧m=((j:Nat):Int)∧i≤j∧j<i+n
 | 0,i,h=>by cases h
 | n+1,i,h=>by
  rcases gh h with ⟨e,h1⟩ | ⟨e,h1⟩
  ·exact ⟨i,h1,of_decide_eq_true e,Nat.le_refl _,by omega⟩
  ·obtain ⟨j,k1,k2,k3,k4⟩:=rk n (i+1) h1
   exact ⟨j,k1,k2,by omega,by omega⟩
def Qo:Operand→Option Nat
 | .const (.int _ (.ofNat n))=>some n
 | _=>none
theorem jf {n:Int} (h:bl n):((nN n:Nat):Int)=n:=Int.toNat_of_nonneg h
def Qu (E:Env) (T:Nat) (px:A) (y:Operand) (py:A) (h:H) (K:A→H→Fp→Option β):Option β:=match py with
 | .v (.int _ n)=>match bM E.cj T with
  | some ⟨.array len el,_,_,_,_,_,_⟩=>match bM E.cj el with
   | some e=>match px with
    | .ptr q off=>match Qo y with
     | some i=>gd (neq (nN n) i) (bif Nat.blt i len then gd (bl n) (K (.ptr q (off+i*e.size)) h .no) else none)
     | none=>OD len 0 n (fun i=>K (.ptr q (off+i*e.size)) h .no)
    | .tp X π=>gd (bl n) (gd (bx (nN n) len) (K (.tp X (π++[.ai (nN n) len e.size])) h .no))
    | .dp t x=>gd (bl n) (gd (bx (nN n) len) (bif Nat.blt 0 e.size then (match jF [.ai (nN n) len e.size] t x with
     | some s=>K (.dp s.t s.x) h .no
     | none=>none) else none))
    | _=>none
   | none=>none
  | some ⟨.slice el,_,_,_,_,_,_⟩=>match bM E.cj el with
   | some e=>bif Nat.blt 0 e.size then (match px with
    | .tl t _ l=>bif Nat.beq t.size e.size then gd (bl n) (gd (bx (nN n) (len l)) (K (.dp t (nth t.bT l (nN n))) h .no)) else none
    | .tw X z=>bif Nat.beq z e.size then eS h X (fun t l=>bif Nat.beq z t.size then gd (bl n) (gd (bx (nN n) (len l)) (K (.tp X [.ix (nN n) z]) h (.rd [eB X]))) else none) else none
    | .ts X z off m=>bif Nat.beq z e.size then gd (bl n) (gd (bx (nN n) m) (K (.tp X [.ix (aN off (nN n)) z]) h .no)) else none
    | .tf X z off m=>bif Nat.beq z e.size then gd (bl n) (gd (bx (nN n) m) (K (.tp X [.ix (aN off (nN n)) z]) h .no)) else none
    | .aa X π m z=>bif Nat.beq z e.size then gd (bl n) (gd (bx (nN n) m) (K (.tp X (π++[.ai (nN n) m z])) h .no)) else none
    | .sl q off z m=>bif Nat.beq z e.size then OD m 0 n (fun i=>K (.ptr q (off+i*z)) h .no) else none
    | _=>none) else none
   | none=>none
  | _=>none
 | _=>none
theorem Bp {t:Ty} {l:List t.T} {i:Nat} (hi:i<l.length) {j:Nat} {c:D} (hj:(cu t (nth t.bT l i))[j]?=some c):(l.map (cu t)).flatten[i*t.size+j]?=some c:=by
 have e:l=l.take i++nth t.bT l i::l.drop (i+1):=by
  rw [show nth t.bT l i=l[i] by simp [nth,zA,zD hi],List.getElem_cons_drop,zP]
 have hl:((l.take i).flatMap (cu t)).length=i*t.size:=by
  have:∀m:List t.T,(m.flatMap (cu t)).length=m.length*t.size:=fun m=>by
   induction m with
   | nil=>simp
   | cons a m ih=>rw [List.flatMap_cons,zY,ih,cK,zR,Nat.succ_mul,Nat.add_comm]
  rw [this,List.length_take,Nat.min_eq_left (Nat.le_of_lt hi)]
 rw [gA]
 conv=>lhs;rw [e]
 rw [List.flatMap_append,List.flatMap_cons,zJ (by omega),hl,show i*t.size+j-i*t.size=j by omega,zK (zB.1 hj).1]
 exact hj
theorem E4 (hE:bt P E) {T:Nat} {x y:Operand} (ho:o.op = .indexAddr T x y) (hr:Qu E T (ρ x) y (ρ y) h K=some r):Out P o ρ h K r:=by
 have hd:∀c,o.op≠.defer c:=by rw [ho];intro c e;cases e
 unfold Qu at hr
 split at hr
 ·rename_i k n hy
  split at hr
  ·rename_i len el _ _ _ _ _ _ ht
   split at hr
   ·rename_i e he
    have jy:∀{v:A},0≤n∧n<len→(∀g u,V g (ρ x) u→∃b off,u = .pointer (some ⟨b,off,none⟩)∧V g v (.pointer (some ⟨b,off+n.toNat*e.size,none⟩)))→∀S2,cL P o ρ S2 S2 v:=fun hn hv S2=>
     m6 ho (hE.cj _ _ ht).u (hE.cj _ _ he).ti.size hy hn hv
    split at hr
    ·rename_i q off hx
     have ptr:∀i:Nat,n.toNat=i→∀g u,V g (ρ x) u→∃b Lc,u = .pointer (some ⟨b,Lc,none⟩)∧V g (.ptr q (off+i*e.size)) (.pointer (some ⟨b,Lc+n.toNat*e.size,none⟩)):=fun i hi g u hu=>by
      rw [hx] at hu
      cases hu with
      | ptr _ _ b s hb=>exact ⟨b,off,rfl,by rw [hi];exact .ptr _ _ b s hb⟩
     split at hr
     ·rename_i i _
      obtain ⟨h1,hr⟩:=ba hr
      obtain ⟨h2,hr⟩:=ae hr
      obtain ⟨h3,hr⟩:=ba hr
      have h4:=jf h3
      have h1:nN n=i:=h1
      have h5:=aQ h2
      exact .pure hr (jy ⟨h3,by omega⟩ (ptr i h1)) hd
     ·obtain ⟨i,h1,h2,h3,h4⟩:=rk _ _ hr
      exact .pure h1 (jy ⟨by omega,by omega⟩ (ptr i (by omega))) hd
    ·rename_i X π hx
     obtain ⟨h3,hr⟩:=ba hr
     obtain ⟨h4,hr⟩:=ba hr
     have h5:=jf h3
     have h4:nN n<len:=h4
     refine .pure hr (jy ⟨h3,by omega⟩ (fun g u hu=>?_)) hd
     rw [hx] at hu
     cases hu with
     | tp _ _ b s hb hk=>
      refine ⟨b,b_ π,rfl,?_⟩
      have:=V.tp (g:=g) X (π++[.ai (nN n) len e.size]) b s hb ((gZ π [.ai (nN n) len e.size]).2 ⟨hk,show nN n<len∧True from ⟨h4,trivial⟩⟩)
      rw [fq] at this
      exact this
    ·rename_i t z hx
     obtain ⟨h3,hr⟩:=ba hr
     obtain ⟨h4,hr⟩:=ba hr
     obtain ⟨_,hr⟩:=ae hr
     have h5:=jf h3
     have h4:nN n<len:=h4
     split at hr
     ·rename_i sg QK
      refine .pure hr (jy ⟨h3,by omega⟩ (fun g u hu=>?_)) hd
      rw [hx] at hu
      cases hu with
      | dp _ _ b off f hm=>
       obtain ⟨a,c,q1,q2⟩:=iu _ t z 0 sg QK ⟨h4,trivial⟩
       have q2:a.length=nN n*e.size:=q2
       refine ⟨b,off,rfl,.dp sg.t sg.x b _ (fun j=>f (nN n*e.size+j)) (fun j d hj=>?_)⟩
       have:=hm (nN n*e.size+j) d (by
        rw [q1,zJ (by omega),show nN n*e.size+j-a.length=j by omega,zK (zB.1 hj).1];exact hj)
       rw [Nat.add_assoc]
       exact this
     ·cases hr
    ·cases hr
   ·cases hr
  ·rename_i el _ _ _ _ _ _ ht
   split at hr
   ·rename_i e he
    obtain ⟨h0,hr⟩:=ae hr
    have h0:=aQ h0
    have jy:∀{v:A} {S2:Hp},(∀g w u,Inv g S2 w→V g (ρ x) u→∃b off m cap,u = .slice (some ⟨b,off,none⟩) m cap∧(0≤n∧n<m)∧V g v (.pointer (some ⟨b,off+n.toNat*e.size,none⟩)))→cL P o ρ S2 S2 v:=fun hv=>
     oj ho (hE.cj _ _ ht).u (hE.cj _ _ he).ti.size hy hv
    split at hr
    ·rename_i t f l hx
     obtain ⟨h1,hr⟩:=ae hr
     obtain ⟨h3,hr⟩:=ba hr
     obtain ⟨h4,hr⟩:=ba hr
     have h5:=jf h3
     have h4:nN n<l.length:=h4
     refine .pure hr (fun S2=>jy (fun g w u hI hu=>?_)) hd
     rw [hx] at hu
     cases hu with
     | tl _ _ _ _ hv=>
      rw [←beq_eq h1] at *
      generalize lG:List.map (cu t) l=es at hv
      have kU:es.length=l.length:=by rw [←lG,zH]
      cases hv with
      | pG=>simp at kU;omega
      | sl _ _ _ a cap vs hz hc hf hn mn hl hm zg=>
       obtain ⟨p,rfl⟩:∃p,a=some p:=by
        cases a with
        | none=>have:=hn rfl;omega
        | some p=>exact ⟨p,rfl⟩
       refine ⟨p.1,p.2,es.length,cap,rfl,⟨h3,by omega⟩,.dp t _ p.1 _ (fun j=>vs.getD (nN n*t.size+j) undef) (fun j c hj=>?_)⟩
       have Fq:=Bp (t:=t) (l:=l) h4 hj
       rw [lG] at Fq
       have du:=(zB.1 Fq).1
       have tc:vs[nN n*t.size+j]?=some (vs.getD (nN n*t.size+j) undef):=by
        rw [zA,zD (by rw [←hl];exact du)];rfl
       refine ⟨?_,zg _ c _ Fq tc⟩
       have:=hm p _ _ rfl tc
       rw [Nat.add_assoc];exact this
    ·rename_i X z hx
     obtain ⟨h1,hr⟩:=ae hr
     obtain rfl:=beq_eq h1
     obtain ⟨t,l,hr,hX,cM⟩:=cJ hr
     obtain ⟨h2,hr⟩:=ae hr
     obtain ⟨h3,hr⟩:=ba hr
     obtain ⟨h4,hr⟩:=ba hr
     have h5:=jf h3
     have h4:nN n<l.length:=h4
     have h2:=beq_eq h2
     refine .read _ hr (fun S2 hA=>jy (fun g w u hI hu=>?_)) hd
     have ct:=(hA _ (bh hX (.head _))).1.trans cM
     rw [hx] at hu
     cases hu with
     | ni _ _ ad bo=>
      rcases hI.cells _ _ ct with ⟨_,k2⟩ | ⟨b,tt,k1,_⟩
      ·have:=aS t l
       rw [k2] at this
       have:0<l.length*t.size:=Nat.mul_pos (by omega) (by omega)
       simp at *;omega
      ·rw [k1] at bo;cases bo
     | tw _ _ m b cap tt bo hn mn hp d jl=>
      rcases hI.cells _ _ ct with ⟨k1,_⟩ | ⟨b',zu,k1,_⟩
      ·rw [k1] at bo;cases bo
      have Fx:=bo
      rw [k1] at bo
      simp only [zI,zU] at bo
      obtain ⟨rfl,hlen,_⟩:=bo
      rw [aS,h2] at hlen
      have hm:l.length=m:=Nat.eq_of_mul_eq_mul_right (by omega) hlen
      refine ⟨b',d,m,cap,rfl,⟨h3,by omega⟩,?_⟩
      obtain rfl:=jl (by omega)
      have:=V.tp (g:=g) X [.ix (nN n) e.size] b' _ Fx ⟨zW _ (by omega),trivial⟩
      rw [show b_ [.ix (nN n) e.size]=nN n*e.size from rfl] at this
      rw [Nat.zero_add];exact this
    ·rename_i X z off m hx
     obtain ⟨h1,hr⟩:=ae hr
     obtain rfl:=beq_eq h1
     obtain ⟨h3,hr⟩:=ba hr
     obtain ⟨h4,hr⟩:=ba hr
     have h5:=jf h3
     have h4:nN n<m:=h4
     refine .pure hr (fun S2=>jy (fun g w u hI hu=>?_)) hd
     rw [hx] at hu
     cases hu with
     | nk _ _ _ _ _ _ hn=>omega
     | ts _ _ _ _ b cap s bo hn mn hs hp d jl=>
      refine ⟨b,d,m,cap,rfl,⟨h3,by omega⟩,?_⟩
      obtain rfl:=jl (by omega)
      have:=V.tp (g:=g) X [.ix (aN off (nN n)) e.size] b _ bo ⟨Nat.le_trans (zW _ (show aN off (nN n)+1≤off+m by unfold aN;omega)) hs,trivial⟩
      rw [show b_ [.ix (aN off (nN n)) e.size]=(off+nN n)*e.size from rfl,Nat.add_mul] at this
      exact this
    ·rename_i X z off m hx
     obtain ⟨h1,hr⟩:=ae hr
     obtain rfl:=beq_eq h1
     obtain ⟨h3,hr⟩:=ba hr
     obtain ⟨h4,hr⟩:=ba hr
     have h5:=jf h3
     have h4:nN n<m:=h4
     refine .pure hr (fun S2=>jy (fun g w u hI hu=>?_)) hd
     rw [hx] at hu
     cases hu with
     | vX _ _ _ _ _ _ hn=>omega
     | tf _ _ _ _ b s bo mn hs d jl=>
      refine ⟨b,d,m,m,rfl,⟨h3,by omega⟩,?_⟩
      obtain rfl:=jl (by omega)
      have:=V.tp (g:=g) X [.ix (aN off (nN n)) e.size] b _ bo ⟨Nat.le_trans (zW _ (show aN off (nN n)+1≤off+m by unfold aN;omega)) hs,trivial⟩
      rw [show b_ [.ix (aN off (nN n)) e.size]=(off+nN n)*e.size from rfl,Nat.add_mul] at this
      exact this
    ·rename_i X π m z hx
     obtain ⟨h1,hr⟩:=ae hr
     obtain rfl:=beq_eq h1
     obtain ⟨h3,hr⟩:=ba hr
     obtain ⟨h4,hr⟩:=ba hr
     have h5:=jf h3
     have h4:nN n<m:=h4
     refine .pure hr (fun S2=>jy (fun g w u hI hu=>?_)) hd
     rw [hx] at hu
     cases hu with
     | aa _ _ _ _ b cap s bo hk hn mn=>
      refine ⟨b,b_ π,m,cap,rfl,⟨h3,by omega⟩,?_⟩
      have:=V.tp (g:=g) X (π++[.ai (nN n) m e.size]) b s bo ((gZ π [.ai (nN n) m e.size]).2 ⟨hk,show nN n<m∧True from ⟨h4,trivial⟩⟩)
      rw [fq] at this
      exact this
    ·rename_i q off z m hx
     obtain ⟨h1,hr⟩:=ae hr
     obtain rfl:=beq_eq h1
     obtain ⟨i,k1,k2,k3,k4⟩:=rk _ _ hr
     refine .pure k1 (fun S2=>jy (fun g w u hI hu=>?_)) hd
     rw [hx] at hu
     cases hu with
     | sl _ _ _ _ b cap s bo hn mn hs=>
      refine ⟨b,off,m,cap,rfl,⟨by omega,by omega⟩,?_⟩
      rw [show n.toNat=i by omega]
      exact .ptr _ _ b s bo
    ·cases hr
   ·cases hr
  ·cases hr
 ·cases hr
end
end
section
open Go.RowKit
section
variable {P:Program} {E:Env} {o:Oper} {ρ:Operand→A} {h:H} {β:Type} {K:A→H→Fp→Option β} {r:β}
def E0 (E:Env) (T:Nat) (px:A) (h:H) (K:A→H→Fp→Option β):Option β:=match bM E.cj T with
 | some e=>match px with
  | .ptr q off=>bif Nat.blt q 16777216 then (match h.t.get q with
   | some (.cells cs)=>bif fb e.d then (bif Nat.ble (off+e.size) cs.length then K (.agg ((cs.drop off).take e.size)) h (.rd [b8 q]) else none) else (match cs[off]? with
    | some c=>vZ c (fun v=>K v h (.rd [b8 q]))
    | none=>none)
   | _=>none) else none
  | .tp X π=>ma h X π (fun s=>bif Nat.beq s.t.size e.size then (bif fb e.d then K (.agg (aB s.t s.x)) h (.rd [eB X]) else (match aB s.t s.x with
   | [c]=>vZ c (fun v=>K v h (.rd [eB X]))
   | _=>none)) else none)
  | .dp t x=>bif t.data && Nat.beq t.size e.size then (bif fb e.d then K (.agg (aB t x)) h .no else (match aB t x with
   | [c]=>vZ c (fun v=>K v h .no)
   | _=>none)) else none
  | _=>none
 | none=>none
theorem xl (hE:bt P E) {T:Nat} {px:A} (hr:E0 E T px h K=some r):∃v l,K v h (.rd l)=some r∧∀S2,Agree (.rd l) (hp h) S2→∀(o:Oper) (ρ:Operand→A) (x:Operand),o.op = .load T x→ρ x=px→yS P o ρ S2 v:=by
 have sp:∀{c:A} {l:List Nat},vZ c (fun v=>K v h (.rd l))=some r→(∀S2,Agree (.rd l) (hp h) S2→∀(o:Oper) (ρ:Operand→A) (x:Operand),o.op = .load T x→ρ x=px→yS P o ρ S2 c) →
   ∃v l,K v h (.rd l)=some r∧∀S2,Agree (.rd l) (hp h) S2→∀(o:Oper) (ρ:Operand→A) (x:Operand),o.op = .load T x→ρ x=px→yS P o ρ S2 v:=fun h1 h2=>by
  obtain ⟨v,k1,k2⟩:=rm h1
  exact ⟨v,_,k1,fun S2 hA o ρ x ho hx g w a hI hv=>let ⟨u,q1,q2⟩:=h2 S2 hA o ρ x ho hx g w a hI hv;⟨u,q1,k2 g u q2⟩⟩
 unfold E0 at hr
 split at hr
 ·rename_i e ht
  have hk:=hE.cj _ _ ht
  split at hr
  ·rename_i q off
   obtain ⟨hq,hr⟩:=ae hr
   have hq:=aQ hq
   split at hr
   ·rename_i cs hg
    have cM:(hp h).ob q=some (.cells cs):=by rw [fw hq];unfold cY;rw [hg];rfl
    cases ha:fb e.d with
    | true=>
     rw [ha] at hr;simp only [cond_true] at hr
     obtain ⟨h1,hr⟩:=ae hr
     exact ⟨_,_,hr,fun S2 hA o ρ x ho hx=>jY ho hk.u ha hk.ti.size (by rw [hx];rfl) ((hA q (az hq (.head _))).1.trans cM) (Nat.le_of_ble_eq_true h1)⟩
    | false=>
     rw [ha] at hr;simp only [cond_false] at hr
     split at hr
     ·rename_i c hc
      exact sp hr (fun S2 hA o ρ x ho hx=>pV ho hk.u ha (by rw [hx];rfl) ((hA q (az hq (.head _))).1.trans cM) hc)
     ·cases hr
   ·cases hr
  ·rename_i X π
   obtain ⟨sg,h1,hX,h2⟩:=ny hr
   obtain ⟨h3,h1⟩:=ae h1
   have h3:=beq_eq h3
   have bc:∀{S2:Hp} {v:A} {o:Oper} {ρ:Operand→A} {x:Operand},o.op = .load T x→ρ x = .tp X π→Agree (.rd [eB X]) (hp h) S2→(∀a c,S2.ob X.id=some (.cells (a++(aB sg.t sg.x++c)))→a.length=b_ π→yS P o ρ S2 v)→yS P o ρ S2 v:=fun {S2 v o ρ x} ho hx hA k=>.bc fun g w a hI hv=>by
    have zh:=hv x (by simp [ho,Op.operands])
    rw [hx] at zh
    have ha:=hA _ (bh hX (.head _))
    obtain ⟨a,c,q1,q2⟩:=h2 g _ w _ hI ha.1 ha.2 zh
    exact k a c q1 q2
   have qW:∀{ρ:Operand→A} {x:Operand},ρ x = .tp X π→Pl (ρ x)=some (X.id,b_ π):=fun hx=>by rw [hx];rfl
   cases ha:fb e.d with
   | true=>
    rw [ha] at h1;simp only [cond_true] at h1
    refine ⟨_,_,h1,fun S2 hA o ρ x ho hx=>bc ho hx hA fun a c q1 q2=>?_⟩
    have:=jY (P:=P) ho hk.u ha hk.ti.size (qW hx) q1 (by simp only [zY,bm];omega)
    rwa [←q2,List.drop_left,←h3,←bm sg.t sg.x,List.take_left] at this
   | false=>
    rw [ha] at h1;simp only [cond_false] at h1
    split at h1
    ·rename_i c0 DV
     refine sp h1 (fun S2 hA o ρ x ho hx=>bc ho hx hA fun a c q1 q2=>?_)
     refine pV ho hk.u ha (qW hx) q1 ?_
     rw [←q2,zJ (Nat.le_refl _),Nat.sub_self,DV];rfl
    ·cases h1
  ·rename_i t y
   obtain ⟨h1,hr⟩:=ae hr
   simp only [zC] at h1
   have h3:=beq_eq h1.2
   cases ha:fb e.d with
   | true=>
    rw [ha] at hr;simp only [cond_true] at hr
    exact ⟨_,[],hr,fun S2 _ o ρ x ho hx=>la ho hk.u (by rw [h3];exact hk.ti.size) hx h1.1 (by rw [ha,if_pos rfl])⟩
   | false=>
    rw [ha] at hr;simp only [cond_false] at hr
    split at hr
    ·rename_i c0 DV
     exact sp (l:=[]) hr (fun S2 _ o ρ x ho hx=>la ho hk.u (by rw [h3];exact hk.ti.size) hx h1.1 (by rw [ha,if_neg (by simp)];exact DV))
    ·cases hr
  ·cases hr
 ·cases hr
theorem EZ (hE:bt P E) {T:Nat} {x:Operand} (ho:o.op = .load T x) (hr:E0 E T (ρ x) h K=some r):Out P o ρ h K r:=by
 have hd:∀c,o.op≠.defer c:=by rw [ho];intro c e;cases e
 obtain ⟨v,l,k1,k2⟩:=xl hE hr
 exact .read _ k1 (fun S2 hA=>.value (k2 S2 hA o ρ x ho rfl)) hd
def ng (P:Program) (o:Oper) (S S':Hp) (pv:A) (g:G) (w:World) (a:Act):Prop:=
 ∀(next:Act→World→Prop) (Q:Exit→Act→World→Prop),(∀v g' w',V g' pv v→Inv g' S' w'→Ext S g w S' g' w'→next (a.put o.dst v) w')→o.wp P a w next Q
theorem ng.pre {S S1 S':Hp} {pv:A} {g g1:G} {w:World} {a:Act} (k:ng P o S1 S' pv g1 w a) (e:Ext S g w S1 g1 w):ng P o S S' pv g w a:=fun next Q K=>k next Q (fun v g' w' h1 h2 h3=>K v g' w' h1 h2 (e.trans h3))
theorem vY {S:Hp} {T:TypeId} {x y:Operand} {p off n:Nat} {cs ps:List A} {g:G} {w:World} {a:Act} (ho:o.op = .store T x y) (hs:cG P T n) (hI:Inv g S w) (hx:∃b s,g.bc p=some (some b,s)∧a.eval x = .pointer (some ⟨b,off,none⟩)) (hy:Vs g ps (a.eval y).cells.toList) (hl:ps.length=n)
  (hp:S.ob p=some (.cells cs)) (hn:off+n≤cs.length):ng P o S (S.set p (.cells (put cs off ps))) .bR g w a:=by
 intro next Q K
 obtain ⟨b,s,h,hu⟩:=hx
 obtain ⟨cur,ty,k2,kD,h3,h4⟩:=hI.store (off:=off) hp h hy (by omega)
 unfold Oper.wp
 have j7:(a.eval y).cells.size=n:=by have:=hy.1;simp at this;omega
 have po:=run_storeCells_at P b off ty (a.eval y).cells.toList 0 cur w k2 (by simpa using kD) hy.one
 simp only [execOp,ho,hu,Instr.storeAt,Instr.sureAddr,pure_bind,storeVar,Sem.run_bind,hs.run w,Result.andThen_ok,j7,ne_eq,not_true_eq_false,if_false]
 simp only [Nat.add_zero] at po
 simp only [po,Result.andThen_ok,Sem.run_pure]
 exact K _ g _ (.bR _) h3 h4
theorem As {T:Fp} {us:List Up} {S' S2:Hp} (hT:∀u∈us,touch T u.id=true):et T S' (app us S2)=et T S' S2:=by
 refine Hp.ext' (fun i=>?_) (fun i=>?_)
 ·show (if touch T i=true then _ else _)=(if touch T i=true then _ else _)
  split
  ·rfl
  ·rename_i hi;exact (bW us S2 i (fun u hu e=>hi (e▸hT u hu))).1
 ·show (if touch T i=true then _ else _)↔(if touch T i=true then _ else _)
  split
  ·exact Iff.rfl
  ·rename_i hi;exact (bW us S2 i (fun u hu e=>hi (e▸hT u hu))).2
def P9 (E:Env) (T:Nat) (px py:A) (h:H) (K:A→H→Fp→Option β):Option β:=match bM E.cj T,py.cells with
 | some e,some ps=>match px with
  | .ptr q off=>bif Nat.blt q 16777216 then (match h.t.get q with
   | some (.cells cs)=>bif Nat.beq ps.length e.size && Nat.ble (off+e.size) cs.length && !(qe h (b8 q)) then cO h.t q (some (.cells (put cs off ps))) (fun t1=>K .bR { h with t:=t1 } (.wr [b8 q])) else none
   | _=>none) else none
  | .tp X π=>match WX h X π with
   | some u=>bif Nat.beq u.size e.size then (FF u ps h (fun oe h1 T1=>match kC u oe with
     | some y=>lq h1 X π u y (fun h2=>K .bR h2 (.wr (eB X::T1)))
     | none=>none)) else none
   | none=>none
  | _=>none
 | _,_=>none
theorem kF {T U:List Nat} {w:Bool} {s:List Nat} {i:Nat} (hU:∀j∈U,j∈T) (k:touch ⟨false,T,w,s⟩ i=false):touch ⟨false,U,w,s⟩ i=false:=by
 cases hx:touch ⟨false,U,w,s⟩ i with
 | false=>rfl
 | true=>rw [cN hU hx] at k;cases k
theorem Ej (hE:bt P E) {T:Nat} {x y:Operand} (ho:o.op = .store T x y) (hr:P9 E T (ρ x) (ρ y) h K=some r):Out P o ρ h K r:=by
 have hd:∀c,o.op≠.defer c:=by rw [ho];intro c e;cases e
 unfold P9 at hr
 split at hr
 ·rename_i e ps ht nf
  have hk:=hE.cj _ _ ht
  split at hr
  ·rename_i q off hx
   obtain ⟨hq,hr⟩:=ae hr
   have hq:=aQ hq
   split at hr
   ·rename_i cs hg
    have cM:(hp h).ob q=some (.cells cs):=by rw [fw hq];unfold cY;rw [hg];rfl
    obtain ⟨h1,hr⟩:=ae hr
    simp only [zC] at h1
    obtain ⟨_,t1,k1,k2⟩:=aY hr
    exact ⟨_,_,_,k1,.of [.set q (.cells (put cs off ps))] (kT (x:=.cells (put cs off ps)) hq k2) rfl (fun u hu=>by rcases zF.1 hu with rfl;exact az (o:=q) hq (.head _))
     (fun S2 hA=>uv ho hk.ti.size (by rw [hx];rfl) nf (beq_eq h1.1.1) ((hA q (az hq (.head _))).1.trans cM) (Nat.le_of_ble_eq_true h1.1.2)) hd⟩
   ·cases hr
  ·rename_i X π hx
   split at hr
   ·rename_i u hu
    obtain ⟨E_,hr⟩:=ae hr
    obtain ⟨oe,h1,T1,hr,us,c1,c2,c3⟩:=Br hr
    split at hr
    ·rename_i y' hy
     obtain ⟨h2,k1,hX,k2,k3⟩:=z5 hr
     have vA:∀u∈us,touch (Fp.wr (eB X::T1)) u.id=true:=fun u hu=>cN (fun i hi=>.tail _ hi) (c2 u hu)
     have out:∀i,touch (Fp.wr (eB X::T1)) i=false→(hp h2).ob i=(hp h).ob i∧((hp h2).fr i↔(hp h).fr i):=fun i hi=>by
      have e1:=k2 i (kF (T:=eB X::T1) (fun j hj=>by rcases zF.1 hj with rfl;exact .head _) hi)
      have e2:=bW us (hp h) i (fun u hu e=>by have:=vA u hu;rw [←e] at this;rw [show touch (Fp.wr (eB X::T1)) i=false from hi] at this;cases this)
      rw [←c1] at e2
      exact ⟨e1.1.trans e2.1,e1.2.trans e2.2⟩
     refine ⟨_,_,_,k1,⟨out,fun i hi=>out i (nh hi),fun S2 hA=>?_⟩⟩
     ·refine cL.Dz (fun g w a next Q hI hv K'=>?_) hd
      have pn:=hv x (by simp [ho,Op.operands])
      have QC:=(hv y (by simp [ho,Op.operands])).cells nf
      obtain ⟨g1,q1,q2,q3⟩:=c3 g S2 w _ hI (hA.mono fun i hi=>.tail _ hi) QC
      obtain ⟨z1,z2⟩:=eQ (g:=g1) u oe y' hy
      have GN:Agree (Fp.wr (eB X::T1)) (hp h1) (app us S2):=by rw [c1];exact Agree.app us hA
      rw [hx] at pn
      have LB:=pn.mono q2.le
      obtain ⟨cs,w1,w2,w3⟩:=k3 (eB X::T1) (.head _) g1 _ w _ q1 GN LB
      have qW:∃b s,g1.bc X.id=some (some b,s)∧a.eval x = .pointer (some ⟨b,b_ π,none⟩):=LB.pl rfl
      have j7:=beq_eq E_
      have st:=vY (P:=P) ho hk.ti.size q1 qW (z2 _ q3) (by rw [bm,j7]) w1 (by rw [←j7];exact w2)
      rw [←w3,As vA] at st
      exact (st.pre q2) next Q K'
    ·cases hr
   ·cases hr
  ·cases hr
 ·cases hr
def iY (x:dt) (h:H) (k:Nat→H→Option β):Option β:=cO h.t h.aL (some x) (fun t1=>k h.aL { h with t:=t1,aL:=h.aL+1 })
theorem db {x:dt} {k:Nat→H→Option β} (hr:iY x h k=some r):∃h',k h.aL h'=some r∧h.aL<16777216∧(hp h).fr h.aL∧hp h'=app [.new h.aL x.low] (hp h):=by
 obtain ⟨hq,t1,k1,k2⟩:=aY hr
 have hq:h.aL<16777216:=uN hq
 refine ⟨_,k1,hq,?_,xH hq k2⟩
 have e:(if h.aL<bS then h.aL≤h.aL else di h.rg h.aL)=(h.aL≤h.aL):=if_pos hq
 show (if h.aL<bS then h.aL≤h.aL else di h.rg h.aL)
 rw [e];exact Nat.le_refl _
theorem jC {S:Hp} {T:TypeId} {i:TypeInfo} {z:Value} {q:Nat} {zs:List A} (ho:o.op = .alloc T) (hi:P.info? T=some i) (hz:i.zero=some z) (LA:Zs zs z) (hf:S.fr q) :
  cL P o ρ S (S.new q (.cells zs)) (.ptr q 0):=by
 intro g w a next Q hI hv K
 have V9:=LA g
 obtain ⟨h1,h2⟩:=hI.gY hf (cs:=zs) (vs:=z.cells) T (by have:=V9.1;simp at this ⊢;omega) V9.all
 unfold Oper.wp
 simp only [execOp,ho,Instr.alloc,Sem.run_bind,zeroValue,typeInfo,run_program,Result.andThen_ok,hi,hz,Sem.run_pure,newVar,newRow,run_newObj]
 exact K _ _ _ (.ptr _ _ w.heap.size _ bG) h1 h2
theorem V.wL {g:G} {q:Nat} {v:Value} (hv:V g (.ptr q 0) v):V g (.tp (.loc q) []) v:=by
 cases hv with
 | ptr _ _ b s hb=>exact .tp (.loc q) [] b s hb trivial
def Gn (E:Env) (T:Nat) (h:H) (K:A→H→Fp→Option β):Option β:=match bM E.cj T with
 | some e=>bif e.lt then (match e.t with
  | some t=>iY (.one t t.bT) h (fun q h'=>K (.tp (.loc q) []) h' (.wr [b8 q]))
  | none=>none) else iY (.cells (ff e.zero)) h (fun q h'=>K (.ptr q 0) h' (.wr [b8 q]))
 | none=>none
theorem BO (hE:bt P E) {T:Nat} (ho:o.op = .alloc T) (hr:Gn E T h K=some r):Out P o ρ h K r:=by
 have hd:∀c,o.op≠.defer c:=by rw [ho];intro c e;cases e
 unfold Gn at hr
 split at hr
 ·rename_i e ht
  have hk:=hE.cj _ _ ht
  obtain ⟨i,t1,t2,t3,t4,t5,t6⟩:=hk.ti
  cases hl:e.lt with
  | true=>
   rw [hl] at hr;simp only [cond_true] at hr
   split at hr
   ·rename_i t qV
    obtain ⟨h',k1,hq,hf,hh⟩:=db hr
    refine ⟨_,_,_,k1,Step.vQ (.of _ hh rfl (fun u hu=>by rcases zF.1 hu with rfl;exact az (o:=h.aL) hq (.head _)) (fun S2 hA=>jC ho t1 t2 (hk.tz t qV) ((hA _ (az hq (.head _))).2.2 hf)) hd) (fun g v hv=>hv.wL)⟩
   ·cases hr
  | false=>
   rw [hl] at hr;simp only [cond_false] at hr
   obtain ⟨h',k1,hq,hf,hh⟩:=db hr
   exact ⟨_,_,_,k1,.of _ hh rfl (fun u hu=>by rcases zF.1 hu with rfl;exact az (o:=h.aL) hq (.head _)) (fun S2 hA=>jC ho t1 t2 (vK t6) ((hA _ (az hq (.head _))).2.2 hf)) hd⟩
 ·cases hr
theorem p_ {S:Hp} {T:TypeId} {x:Operand} {ps qs:List A} {q:Nat} (ho:o.op = .box T x) (hx:(ρ x).cells=some ps) (hq:∀g vs,Vs g ps vs→Vs g qs vs) (hf:S.fr q):cL P o ρ S (S.new q (.cells qs)) (.ptr q 0):=by
 intro g w a next Q hI hv K
 have e2:=hq _ _ ((hv x (by simp [ho,Op.operands])).cells hx)
 obtain ⟨h1,h2⟩:=hI.gY hf (cs:=qs) (vs:=(a.eval x).cells) T (by have:=e2.1;simp at this ⊢;omega) e2.all
 unfold Oper.wp
 simp only [execOp,ho,Instr.box,Sem.run_bind,Result.andThen_ok,Sem.run_pure,newVar,newRow,run_newObj]
 exact K _ _ _ (.ptr _ _ w.heap.size _ bG) h1 h2
def yE (E:Env) (T:Nat) (px:A) (h:H) (K:A→H→Fp→Option β):Option β:=match bM E.cj T,px.cells with
 | some e,some ps=>bif e.lt then (match e.t with
  | some t=>match kC t ps with
   | some x=>iY (.one t x) h (fun q h'=>K (.tp (.loc q) []) h' (.wr [b8 q]))
   | none=>none
  | none=>none) else iY (.cells ps) h (fun q h'=>K (.ptr q 0) h' (.wr [b8 q]))
 | _,_=>none
theorem yD {T:Nat} {x:Operand} (ho:o.op = .box T x) (hr:yE E T (ρ x) h K=some r):Out P o ρ h K r:=by
 have hd:∀c,o.op≠.defer c:=by rw [ho];intro c e;cases e
 unfold yE at hr
 split at hr
 ·rename_i e ps ht nf
  cases hl:e.lt with
  | true=>
   rw [hl] at hr;simp only [cond_true] at hr
   split at hr
   ·rename_i t qV
    split at hr
    ·rename_i y hy
     obtain ⟨h',k1,hq,hf,hh⟩:=db hr
     exact ⟨_,_,_,k1,Step.vQ (.of _ hh rfl (fun u hu=>by rcases zF.1 hu with rfl;exact az (o:=h.aL) hq (.head _)) (fun S2 hA=>p_ ho nf (fun g vs hv=>(eQ t ps y hy).2 vs hv) ((hA _ (az hq (.head _))).2.2 hf)) hd) (fun g v hv=>hv.wL)⟩
    ·cases hr
   ·cases hr
  | false=>
   rw [hl] at hr;simp only [cond_false] at hr
   obtain ⟨h',k1,hq,hf,hh⟩:=db hr
   exact ⟨_,_,_,k1,.of _ hh rfl (fun u hu=>by rcases zF.1 hu with rfl;exact az (o:=h.aL) hq (.head _)) (fun S2 hA=>p_ ho nf (fun g vs hv=>hv) ((hA _ (az hq (.head _))).2.2 hf)) hd⟩
 ·cases hr
end
end
section
open Go.RowKit
section
variable {P:Program} {E:Env} {o:Oper} {ρ:Operand→A} {h:H} {β:Type} {K:A→H→Fp→Option β} {r:β}
def Gk (E:Env) (T:Nat) (ρ:Operand→A) (ps:List (Nat×Operand)) (h:H) (K:A→H→Fp→Option β):Option β:=match bM E.cj T with
 | some e=>match e.d with
  | .struct _=>match mG ρ (fun i=>e.pl.toArray[i]?) (ff e.zero) ps with
   | some cs=>K (.agg cs) h .no
   | none=>none
  | .array _ el=>match bM E.cj el with
   | some e'=>match mG ρ (fun i=>some (i*e'.size,e'.size)) (ff e.zero) ps with
    | some cs=>K (.agg cs) h .no
    | none=>none
   | none=>none
  | _=>none
 | none=>none
theorem BI (hE:bt P E) {T:Nat} {ps:Array (Nat×Operand)} (ho:o.op = .build T ps) (hr:Gk E T ρ ps.toList h K=some r):Out P o ρ h K r:=by
 have hd:∀c,o.op≠.defer c:=by rw [ho];intro c e;cases e
 unfold Gk at hr
 split at hr
 ·rename_i e ht
  have hk:=hE.cj _ _ ht
  split at hr
  ·rename_i fs vD
   split at hr
   ·rename_i cs hf
    obtain ⟨i,t1,t2,t3,t4,t5,t6⟩:=hk.ti
    exact .pure hr (fun S2=>uD ho (by rw [hk.u,vD]) t1 t2 t6 (hk.pl fs vD) hf) hd
   ·cases hr
  ·rename_i n el vD
   split at hr
   ·rename_i e' Rc
    split at hr
    ·rename_i cs hf
     exact .pure hr (fun S2=>m7 ho (by rw [hk.u,vD]) hk.ti (hE.cj _ _ Rc).ti.size hf) hd
    ·cases hr
   ·cases hr
  ·cases hr
 ·cases hr
def yd (f:List A→H→Option (List A×H×List Nat)) (z:Nat):Nat→List A→H→Option (List A×H×List Nat)
 | 0,cs,h=>some (cs,h,[])
 | n+1,cs,h=>match f (cs.take z) h with
  | some (tF,h1,T1)=>match yd f z n (cs.drop z) h1 with
   | some (D7,h2,T2)=>some (tF++D7,h2,T1++T2)
   | none=>none
  | none=>none
theorem tn {f:List A→H→Option (List A×H×List Nat)} (hf:∀cs h cs' h' T,f cs h=some (cs',h',T)→Cv h h' T cs cs') {z:Nat}:∀(n:Nat) (cs:List A) (h:H) (cs':List A) (h':H) (T:List Nat),yd f z n cs h=some (cs',h',T)→Cv h h' T cs cs'
 | 0,cs,h,cs',h',T,e=>by
  simp only [yd,zI,zU] at e
  obtain ⟨rfl,rfl,rfl⟩:=e
  exact Cv.refl h [] _
 | n+1,cs,h,cs',h',T,e=>by
  simp only [yd] at e
  split at e
  ·rename_i tF h1 T1 e1
   split at e
   ·rename_i D7 h2 T2 e2
    simp only [zI,zU] at e
    obtain ⟨rfl,rfl,rfl⟩:=e
    have:=(hf _ _ _ _ _ e1).append (tn hf n _ _ _ _ _ e2)
    rwa [zP] at this
   ·cases e
  ·cases e
theorem jm {pv:A} {S:Hp} {T El:TypeId} {n z:Nat} {parts:Array (Nat×Operand)} {ie:TypeInfo} {zv:Value} {es cs:List A} {q:Nat} {g g0:G} {w:World} {a:Act} (ho:o.op = .buildSlice T n parts) (hT:P.underlying T=some (.slice El)) (hE:P.info? El=some ie) (hz:ie.zero=some zv)
  (hs:ie.size=z) (h0:0<z) (hn:n*z≤16777216) (lG:yn ρ z parts.toList 0=some es) (hl:parts.toList.length=n) (hI:Inv g S w) (hv:∀x∈o.op.operands,V g0 (ρ x) (a.eval x)) (hf:S.fr q) (e5:Vs g cs ((parts.toList.map fun x=>a.eval x.2).flatMap (fun v=>v.cells.toList)))
  (mo:∀g' b,g'.bc q=some (some b,(n*z,n*z))→n≤maxLen→V g' pv (.slice (some ⟨b,0,none⟩) n n)):ng P o S (S.new q (.cells cs)) pv g w a:=by
 intro next Q K
 subst hs
 obtain ⟨e2,e1,e3,e4⟩:=lI (z:=ie.size) (a:=a) (g:=g0) parts.toList 0 es (fun x hx=>hv x.2 (by
  simp only [ho,Op.operands]
  rw [List.mem_toArray]
  exact List.mem_map.2 ⟨x,hx,rfl⟩)) lG
 have E_:((Array.range (n*ie.size)).map (zv.cells[· % zv.cells.size]!)).size=n*ie.size:=by simp
 have LV:=Go.Great.fill_whole h0 (parts.toList.map fun x=>a.eval x.2) ((Array.range (n*ie.size)).map (zv.cells[· % zv.cells.size]!)) e3 (by simp only [zH];rw [E_,hl])
 have mr:(parts.map fun (i,x)=>(i,a.eval x)).toList=((parts.toList.map fun x=>a.eval x.2).zipIdx 0).map (fun x=>(x.2,x.1)):=by rw [←e2];simp
 generalize tc:(parts.toList.map fun x=>a.eval x.2).flatMap (fun v=>v.cells.toList)=vs at *
 have QF:vs.length=n*ie.size:=by rw [←e4.1,e1,hl]
 obtain ⟨h1,h2⟩:=hI.gY hf (cs:=cs) (vs:=vs.toArray) El (by have:=e5.1;simp;omega) (Vs.all (vs:=vs.toArray) e5)
 have OZ:n≤n*ie.size:=Nat.le_mul_of_pos_right _ h0
 have h8:cs.length=n*ie.size:=by rw [e5.1,QF]
 have h9:vs.toArray.size=n*ie.size:=by simp [QF]
 have mo:=mo (fa g q (some w.heap.size,(cs.length,vs.toArray.size))) w.heap.size (by rw [bG,h8,h9]) (by simp only [maxLen];omega)
 unfold Oper.wp
 by_cases GI:n=0
 ·subst GI
  have XE:parts.toList=[]:=zZ hl
  have QD:vs=[]:=zZ (by rw [QF];simp)
  have XF:parts = #[]:=by apply Array.ext';simp [XE]
  have cU:(execOp a.eval o).run P w = .ok (.value (.slice (some ⟨w.heap.size,0,none⟩) 0 0)) (w.alloc (.cells #[] El)):=by
   simp [execOp,ho,XF,Instr.buildSlice,run_underlying hT,sizeOf,typeInfo,hE,Instr.fill,newRow,Array.range_zero']
  rw [cU]
  subst QD
  exact K (.slice (some ⟨w.heap.size,0,none⟩) 0 0) _ _ mo h1 h2
 ·have QQ:¬n*ie.size=0:=by
   intro h;rcases Nat.mul_eq_zero.1 h with h | h<;>omega
  have cU:(execOp a.eval o).run P w = .ok (.value (.slice (some ⟨w.heap.size,0,none⟩) n n)) (w.alloc (.cells vs.toArray El)):=by
   have:=run_buildSlice (P:=P) w T El n (parts.map fun (i,x)=>(i,a.eval x)) vs.toArray ie zv hT hE hz (by omega) QQ (by rw [mr];exact LV)
   simp only [execOp,ho,Sem.run_bind,this,Result.andThen_ok,Sem.run_pure]
  rw [cU]
  exact K _ _ _ mo h1 h2
def Gi (E:Env) (T n:Nat) (ρ:Operand→A) (ps:List (Nat×Operand)) (h:H) (K:A→H→Fp→Option β):Option β:=match bM E.cj T with
 | some ⟨.slice el,_,_,_,_,_,_⟩=>match bM E.cj el with
  | some e=>bif Nat.blt 0 e.size && Nat.ble (n*e.size) 16777216 && Nat.beq ps.length n then (match yn ρ e.size ps 0,e.t with
   | some es,some t=>match yd (fixC 64 t) t.size n es h with
    | some (vG,h1,T1)=>match nq (kC t) t.size n vG with
     | some l=>iY (.row t l) h1 (fun q h2=>K (.tw (.loc q) e.size) h2 (.wr (b8 q::T1)))
     | none=>none
    | none=>none
   | some es,none=>iY (.cells es) h (fun q h2=>K (.sl q 0 e.size n) h2 (.wr [b8 q]))
   | _,_=>none) else none
  | none=>none
 | _=>none
theorem Step.new {T1:List Nat} {h1 h2:H} {us:List Up} {x:Ob} {pv:A} (c1:hp h1=app us (hp h)) (c2:∀u∈us,touch (.wr T1) u.id=true) (hq:h1.aL<16777216) (hf:(hp h1).fr h1.aL) (hh:hp h2=app [.new h1.aL x] (hp h1)) (hd:∀c,o.op≠.defer c)
  (k:∀S2 g w a,Agree (.wr T1) (hp h) S2→(app us S2).fr h1.aL→Inv g S2 w→(∀x∈o.op.operands,V g (ρ x) (a.eval x))→ng P o S2 ((app us S2).new h1.aL x) pv g w a):Step P o ρ h h2 (.wr (b8 h1.aL::T1)) pv:=
 .of (us++[.new h1.aL x]) (by rw [ep,←c1,hh]) rfl (fun u hu=>by
  rcases zX.1 hu with hu | hu
  ·exact cN (fun i hi=>.tail _ hi) (c2 u hu)
  ·rcases zF.1 hu with rfl;exact az (o:=h1.aL) hq (.head _)) (fun S2 hA g w a next Q hI hv K'=>by
  have jH:(app us S2).fr h1.aL:=by
   have:=Agree.app us hA
   rw [←c1] at this
   exact (this h1.aL (az hq (.head _))).2.2 hf
  have e:=ep us [.new h1.aL x] S2
  rw [e] at K'
  exact k S2 g w a (hA.mono fun i hi=>.tail _ hi) jH hI hv next Q K') hd
theorem BF (hE:bt P E) {T n:Nat} {ps:Array (Nat×Operand)} (ho:o.op = .buildSlice T n ps) (hr:Gi E T n ρ ps.toList h K=some r):Out P o ρ h K r:=by
  have hd:∀c,o.op≠.defer c:=by rw [ho];intro c e;cases e
  unfold Gi at hr
  split at hr
  · rename_i el _ _ _ _ _ _ ht
    split at hr
    · rename_i e he
      obtain ⟨hc,hr⟩:=ae hr
      simp only [zC] at hc
      have h0:=aQ hc.1.1
      have hn:=Nat.le_of_ble_eq_true hc.1.2
      have hl:=beq_eq hc.2
      obtain ⟨i,t1,t2,t3,t4,t5,t6⟩:=(hE.cj _ _ he).ti
      split at hr
      · rename_i es t lG qV
        split at hr
        · rename_i vG h1 T1 hf
          split at hr
          · rename_i l hy
            obtain ⟨us,c1,c2,c3⟩:=tn (fun cs h cs' h' T e=>kg _ _ _ _ _ _ _ e) _ _ _ _ _ _ hf
            obtain ⟨h2,k1,hq,jH,hh⟩:=db hr
            refine ⟨_,_,_,k1,.new c1 c2 hq jH hh hd (fun S2 g w a hA hf hI hv=>?_)⟩
            obtain ⟨e2,e1,e3,e4⟩:=lI (z:=e.size) (a:=a) (g:=g) ps.toList 0 es (fun x hx=>hv x.2 (by
              simp only [ho,Op.operands]
              rw [List.mem_toArray]
              exact List.mem_map.2 ⟨x,hx,rfl⟩)) lG
            obtain ⟨g1,q1,q2,q3⟩:=c3 g S2 w _ hI hA e4
            obtain ⟨z1,z2,z3⟩:=jO (g:=g1) (fun cs x h=>eQ t cs x h) _ _ _ hy
            refine ng.pre ?_ q2
            refine jm (g0:=g) ho (hE.cj _ _ ht).u t1 t2 t3 h0 hn lG hl q1 hv hf ?_ (fun g' b hb hx=>.tw (.loc h1.aL) e.size n b n _ hb (Nat.le_refl _) hx (Nat.le_refl _) 0 (fun _=>rfl))
            exact z3 _ q3
          · cases hr
        · cases hr
      · rename_i es lG qV
        obtain ⟨h2,k1,hq,jH,hh⟩:=db hr
        refine ⟨_,_,_,k1,.of _ hh rfl (fun u hu=>by rcases zF.1 hu with rfl;exact az (o:=h.aL) hq (.head _)) (fun S2 hA g w a next Q hI hv K'=>?_) hd⟩
        obtain ⟨e2,e1,e3,e4⟩:=lI (z:=e.size) (a:=a) (g:=g) ps.toList 0 es (fun x hx=>hv x.2 (by
              simp only [ho,Op.operands]
              rw [List.mem_toArray]
              exact List.mem_map.2 ⟨x,hx,rfl⟩)) lG
        exact jm (g0:=g) ho (hE.cj _ _ ht).u t1 t2 t3 h0 hn lG hl hI hv ((hA _ (az hq (.head _))).2.2 jH) e4 (fun g' b hb hx=>.sl h.aL 0 e.size n b n _ hb (Nat.le_refl _) hx (by omega)) next Q K'
      · cases hr
    · cases hr
  · cases hr
end
end
section
open Go.RowKit
section
variable {P:Program} {E:Env} {o:Oper} {ρ:Operand→A} {h:H} {β:Type} {K:A→H→Fp→Option β} {r:β}
theorem V.lO {g:G} {S:Hp} {w:World} (hI:Inv g S w) {X:Ref} {t:Ty} {l:List t.T} (h0:0<t.size) (ho:S.ob X.id=some (.cells (l.flatMap (aB t)))) {v:Value} (hv:V g (.tw X t.size) v) :
  (∃ad,g.bc X.id=some (none,(0,0))∧v = .slice ad 0 0∧l=[])∨∃b s cap d,g.bc X.id=some (some b,s)∧v = .slice (some ⟨b,d,none⟩) l.length cap∧(cap≠0→d=0)∧l.length≤cap∧cap≤maxLen∧cap*t.size≤s.2:=by
 have hlen:=aS t l
 cases hv with
 | ni _ _ ad bo=>
  rcases hI.cells _ _ ho with ⟨_,k2⟩ | ⟨b,tt,k1,_⟩
  ·refine .inl ⟨ad,bo,rfl,zZ ?_⟩
   rw [k2] at hlen
   rcases Nat.eq_zero_or_pos l.length with h | h
   ·exact h
   ·have:0<l.length*t.size:=Nat.mul_pos h h0
    simp at hlen;omega
  ·rw [k1] at bo;cases bo
 | tw _ _ m b cap tt bo hn mn hp d jl=>
  rcases hI.cells _ _ ho with ⟨k1,_⟩ | ⟨b',zu,k1,_⟩
  ·rw [k1] at bo;cases bo
  have Fx:=bo
  rw [k1] at bo
  simp only [zI,zU] at bo
  obtain ⟨rfl,hl,rfl⟩:=bo
  rw [hlen] at hl
  have hm:l.length=m:=Nat.eq_of_mul_eq_mul_right h0 hl
  subst hm
  exact .inr ⟨b',_,cap,d,Fx,rfl,jl,hn,mn,hp⟩
def Lq (h:H) (px:A) (k:Nat→List Nat→Option β):Option β:=match px with
 | .e0=>k 0 []
 | .v (.slice _ n _)=>k n []
 | .tl _ _ l=>k (len l) []
 | .tw X z=>eS h X (fun t l=>bif Nat.beq z t.size && Nat.blt 0 t.size then k (len l) [eB X] else none)
 | .ts _ _ _ n=>k n []
 | .tf _ _ _ n=>k n []
 | .aa _ _ n _=>k n []
 | .sl _ _ _ n=>k n []
 | _=>none
theorem V.I6 {g:G} {t:Ty} {f:Bool} {l:List t.T} {v:Value} (hv:V g (.tl t f l) v):∃ad c,v = .slice ad l.length c:=by
 cases hv with
 | tl _ _ _ _ hd=>
  generalize lG:List.map (cu t) l=es at hd
  have kU:es.length=l.length:=by rw [←lG,zH]
  cases hd with
  | pG=>rw [←kU];exact ⟨_,_,rfl⟩
  | sl _ _ _ a cap vs=>rw [←kU];exact ⟨_,_,rfl⟩
theorem AR {px:A} {k:Nat→List Nat→Option β} (hr:Lq h px k=some r):∃n T,k n T=some r∧∀S2,Agree (.rd T) (hp h) S2→∀g w v,Inv g S2 w→V g px v→∃ad c,v = .slice ad n c:=by
 cases px with
 | e0=>exact ⟨0,[],hr,fun S2 _ g w v _ hv=>by cases hv with | e0 ad=>exact ⟨ad,0,rfl⟩⟩
 | v x=>cases x with
  | slice ad n c=>exact ⟨n,[],hr,fun S2 _ g w v _ hv=>by cases hv;exact ⟨_,_,rfl⟩⟩
  | _=>cases hr
 | tl t f l=>exact ⟨len l,[],hr,fun S2 _ g w v _ hv=>hv.I6⟩
 | tw X z=>
  obtain ⟨t,l,hr,hX,cM⟩:=cJ (show eS h X _=some r from hr)
  obtain ⟨h1,hk⟩:=ae hr
  simp only [zC] at h1
  obtain rfl:=beq_eq h1.1
  exact ⟨_,_,hk,fun S2 hA g w v hI hv=>by
   rcases hv.lO hI (aQ h1.2) ((hA _ (bh hX (.head _))).1.trans cM) with ⟨ad,_,rfl,rfl⟩ | ⟨b,s,cap,d,_,rfl,_⟩
   ·exact ⟨ad,0,rfl⟩
   ·exact ⟨_,cap,rfl⟩⟩
 | ts X z off n=>exact ⟨n,[],hr,fun S2 _ g w v _ hv=>by
   cases hv with
   | nk _ _ _ _ ad _ hn=>exact ⟨ad,0,by rw [show n=0 by omega]⟩
   | ts=>exact ⟨_,_,rfl⟩⟩
 | tf X z off n=>exact ⟨n,[],hr,fun S2 _ g w v _ hv=>by
   cases hv with
   | vX _ _ _ _ ad _ hn=>exact ⟨ad,0,by rw [show n=0 by omega]⟩
   | tf=>exact ⟨_,_,rfl⟩⟩
 | aa X π n z=>exact ⟨n,[],hr,fun S2 _ g w v _ hv=>by cases hv;exact ⟨_,_,rfl⟩⟩
 | sl q off z n=>exact ⟨n,[],hr,fun S2 _ g w v _ hv=>by cases hv;exact ⟨_,_,rfl⟩⟩
 | _=>cases hr
def rL (E:Env) (T:Nat):Option Nat:=match bM E.cj T with
 | some ⟨.slice el,_,_,_,_,_,_⟩=>some el
 | _=>none
theorem j5 (hE:bt P E) {T el:Nat} (h:rL E T=some el):P.underlying T=some (.slice el):=by
 unfold rL at h
 split at h
 ·rename_i ht;cases h;exact (hE.cj _ _ ht).u
 ·cases h
def EY (E:Env) (T:Nat) (px:A) (h:H) (K:A→H→Fp→Option β):Option β:=match rL E T with
 | some _=>Lq h px (fun n T=>K (.v (.int .i64 (zN n))) h (.rd T))
 | none=>none
theorem AQ (hE:bt P E) {T:Nat} {x:Operand} (ho:o.op = .call { callee:=.builtin .len,args:=#[x],argTypes:=#[T] }) (hr:EY E T (ρ x) h K=some r):Out P o ρ h K r:=by
 unfold EY at hr
 split at hr
 ·rename_i el he
  obtain ⟨n,T',h1,h2⟩:=AR hr
  exact .read _ h1 (fun S2 hA=>Ax ho ⟨el,j5 hE he⟩ (h2 S2 hA)) (by rw [ho];intro c e;cases e)
 ·cases hr
def sc {α:Type} (d:α) (n:Nat) (l:List α):List α:=(List.range n).map (nth d l)
theorem u_ {α β:Type} (f:α→List β) (d:α) (n:Nat) (l:List α):(sc d n l).flatMap f=yI f d n l:=by
 unfold sc yI
 rw [List.flatMap_map]
theorem yf {α:Type} (d:α) (n:Nat) (l:List α):(sc d n l).length=n:=by simp [sc]
def rj (h:H) (t:Ty) (py:A) (k:List t.T→List Nat→Option β):Option β:=match py with
 | .e0=>k [] []
 | .v (.slice _ 0 _)=>k [] []
 | .tl t' _ l=>match c_ (.aF t') (.aF t) l with
  | some l'=>bif t.data then k l' [] else none
  | none=>none
 | .nn t' l=>match c_ (.aF t') (.aF t) l with
  | some l'=>bif t.data then k l' [] else none
  | none=>none
 | .os r z o=>opt o (k [] []) (fun j=>eS h (.cE r j) (fun t' l=>match c_ (.aF t') (.aF t) l with
  | some l'=>bif Nat.beq z t.size && Nat.blt 0 t.size then k l' [eB (.cE r j)] else none
  | none=>none))
 | .tw X z=>eS h X (fun t' l=>match c_ (.aF t') (.aF t) l with
  | some l'=>bif Nat.beq z t.size && Nat.blt 0 t.size then k l' [eB X] else none
  | none=>none)
 | .ts X z off n=>eS h X (fun t' l=>match c_ (.aF t') (.aF t) l with
  | some l'=>bif Nat.beq z t.size && Nat.blt 0 t.size then k (tk n (dr off l')) [eB X] else none
  | none=>none)
 | .tf X z off n=>eS h X (fun t' l=>match c_ (.aF t') (.aF t) l with
  | some l'=>bif Nat.beq z t.size && Nat.blt 0 t.size then k (tk n (dr off l')) [eB X] else none
  | none=>none)
 | .aa X π n z=>ma h X π (fun sg=>match c_ sg.t (.arr n t) sg.x with
  | some l=>bif Nat.beq z t.size then k (sc t.bT n l) [eB X] else none
  | none=>none)
 | .sl q off z n=>match h.t.get q with
  | some (.cells cs)=>bif Nat.blt q 16777216 && Nat.beq z t.size && Nat.ble (off+n*z) cs.length then (match nq (kC t) t.size n ((cs.drop off).take (n*z)) with
   | some l=>k l [b8 q]
   | none=>none) else none
  | _=>none
 | _=>none
theorem Given.conv {g:G} {w:World} {v:Value} {sz m:Nat} {ps qs:List A} (k:Given g w v sz m ps) (hc:∀vs,Vs g ps vs→Vs g qs vs):Given g w v sz m qs:=by
 obtain ⟨A2,ic,us,h1,h2,h3,h4⟩:=k
 exact ⟨A2,ic,us,h1,hc _ h2,h3,h4⟩
theorem V.nU {g:G} {S:Hp} {w:World} (hI:Inv g S w) {t:Ty} (hd:t.data=true) {f:Bool} {l:List t.T} {v:Value} (hv:V g (.tl t f l) v):Given g w v t.size l.length (l.flatMap (aB t)):=by
 cases hv with
 | tl _ _ _ _ hv=>
  generalize lG:List.map (cu t) l=es at hv
  have kU:es.length=l.length:=by rw [←lG,zH]
  have Fq:es.flatten=l.flatMap (cu t):=by rw [←lG,gA]
  cases hv with
  | pG=>
   have:l=[]:=zZ kU.symm
   subst this
   exact .zero ⟨_,_,rfl⟩
  | sl _ _ _ a cap vs hz hc hf hn hx hl hm zg=>
   rw [Fq] at zg hl
   have tc:kt g.mem (l.flatMap (cu t)) vs:=⟨hl,zg⟩
   have h1:=yc (g:=g) (f:=aB t) (f':=cu t) (fun x us hu=>kt.cells t x us hd hu) (fun x=>by rw [bm,cK]) l vs tc
   rw [kU]
   refine ⟨_,cap,vs,rfl,h1,by rw [←h1.1,aS],fun h0=>?_⟩
   cases a with
   | none=>have:=hn rfl;omega
   | some p=>
    refine ⟨_,rfl,fun j x hj=>?_⟩
    obtain ⟨cur,ty,fz,q1,q2⟩:=hI.mem _ _ _ (hm p j x rfl hj)
    rw [show (Ph p).add j=⟨p.1,p.2+j,none⟩ from Addr.add_lit _ _ _,cell_of_row w p.1 _ cur ty _ q1];exact q2
theorem piece {g:G} {S:Hp} {w:World} (hI:Inv g S w) {X:Ref} {t:Ty} {l:List t.T} {off n b cap d:Nat} {s:Nat×Nat} (_h0:0<t.size) (cM:S.ob X.id=some (.cells (l.flatMap (aB t)))) (bo:g.bc X.id=some (some b,s)) (hle:off+n≤l.length) (hd:n≠0→d=off*t.size) :
  Given g w (.slice (some ⟨b,d,none⟩) n cap) t.size (tk n (dr off l)).length ((tk n (dr off l)).flatMap (aB t)):=by
 have hl:(tk n (dr off l)).length=n:=by simp [tk,dr];omega
 rw [hl]
 rcases Nat.eq_zero_or_pos n with h0 | h0
 ·subst h0
  rw [show tk 0 (dr off l)=[] from by simp [tk]]
  exact .zero ⟨_,cap,rfl⟩
 ·obtain rfl:=hd (by omega)
  have:=hI.given (off:=off*t.size) (sz:=t.size) (m:=n) (cap:=cap) cM bo (by rw [aS,←Nat.add_mul];exact zW _ hle)
  rw [eD] at this
  exact this
theorem nV {t:Ty} {py:A} {k:List t.T→List Nat→Option β} (hr:rj h t py k=some r):∃l T,k l T=some r∧∀S2,Agree (.rd T) (hp h) S2→∀g w v,Inv g S2 w→V g py v→Given g w v t.size l.length (l.flatMap (aB t)):=by
 cases py with
 | e0=>exact ⟨[],[],hr,fun S2 _ g w v _ hv=>by cases hv with | e0 ad=>exact .zero ⟨ad,0,rfl⟩⟩
 | v x=>cases x with
  | slice ad n c=>cases n with
   | zero=>exact ⟨[],[],hr,fun S2 _ g w v _ hv=>by cases hv;exact .zero ⟨_,_,rfl⟩⟩
   | succ n=>cases hr
  | _=>cases hr
 | tl t' f l=>
  unfold rj at hr
  simp only at hr
  split at hr
  ·rename_i l' hl
   obtain ⟨e,rfl⟩:=bJ hl
   cases e
   obtain ⟨h1,hr⟩:=ae hr
   exact ⟨_,[],hr,fun S2 _ g w v hI hv=>hv.nU hI h1⟩
  ·cases hr
 | nn t' l=>
  unfold rj at hr
  simp only at hr
  split at hr
  ·rename_i l' hl
   obtain ⟨e,rfl⟩:=bJ hl
   cases e
   obtain ⟨h1,hr⟩:=ae hr
   exact ⟨_,[],hr,fun S2 _ g w v hI hv=>by cases hv with | nn _ _ a n c h=>exact (V.tl _ false _ _ h).nU hI h1⟩
  ·cases hr
 | os q z o=>
  rcases eg (show opt o (k [] []) _=some r from hr) with ⟨e0,hr⟩ | ⟨jj,e0,hr⟩
  ·exact ⟨[],[],hr,fun S2 _ g w v _ hv=>by
    cases hv with
    | os _ _ _ _ h0 _=>cases h0 e0 with | e0 ad=>exact .zero ⟨ad,0,rfl⟩⟩
  ·obtain ⟨t',l,hr,hX,cM⟩:=cJ (show eS h (.cE q jj) _=some r from hr)
   split at hr
   ·rename_i l' hl
    obtain ⟨e,rfl⟩:=bJ hl
    cases e
    obtain ⟨h1,hk⟩:=ae hr
    simp only [zC] at h1
    have ez:=beq_eq h1.1
    subst ez
    refine ⟨_,_,hk,fun S2 hA g w v hI E9=>?_⟩
    have hv:V g (.tw (.cE q jj) t.size) v:=by cases E9 with | os _ _ _ _ _ h1=>exact h1 jj e0
    have ct:=(hA _ (bh hX (.head _))).1.trans cM
    rcases hv.lO hI (aQ h1.2) ct with ⟨ad,_,rfl,rfl⟩ | ⟨b,s,cap,d,bo,rfl,hd,hn,_⟩
    ·exact .zero ⟨ad,0,rfl⟩
    ·rcases Nat.eq_zero_or_pos l.length with h0 | h0
     ·have:l=[]:=zZ h0
      subst this
      exact .zero ⟨_,cap,rfl⟩
     ·obtain rfl:=hd (by omega)
      have:=hI.given (off:=0) (sz:=t.size) (m:=l.length) (cap:=cap) ct bo (by rw [aS];omega)
      rw [List.drop_zero,za (by rw [aS];exact Nat.le_refl _)] at this
      exact this
   ·cases hr
 | tw X z=>
  obtain ⟨t',l,hr,hX,cM⟩:=cJ (show eS h X _=some r from hr)
  split at hr
  ·rename_i l' hl
   obtain ⟨e,rfl⟩:=bJ hl
   cases e
   obtain ⟨h1,hk⟩:=ae hr
   simp only [zC] at h1
   obtain rfl:=beq_eq h1.1
   refine ⟨_,_,hk,fun S2 hA g w v hI hv=>?_⟩
   have ct:=(hA _ (bh hX (.head _))).1.trans cM
   rcases hv.lO hI (aQ h1.2) ct with ⟨ad,_,rfl,rfl⟩ | ⟨b,s,cap,d,bo,rfl,hd,hn,_⟩
   ·exact .zero ⟨ad,0,rfl⟩
   ·rcases Nat.eq_zero_or_pos l.length with h0 | h0
    ·have:l=[]:=zZ h0
     subst this
     exact .zero ⟨_,cap,rfl⟩
    ·obtain rfl:=hd (by omega)
     have:=hI.given (off:=0) (sz:=t.size) (m:=l.length) (cap:=cap) ct bo (by rw [aS];omega)
     rw [List.drop_zero,za (by rw [aS];exact Nat.le_refl _)] at this
     exact this
  ·cases hr
 | ts X z off n=>
  obtain ⟨t',l,hr,hX,cM⟩:=cJ (show eS h X _=some r from hr)
  split at hr
  ·rename_i l' hl
   obtain ⟨e,rfl⟩:=bJ hl
   cases e
   obtain ⟨h1,hk⟩:=ae hr
   simp only [zC] at h1
   obtain rfl:=beq_eq h1.1
   refine ⟨_,_,hk,fun S2 hA g w v hI hv=>?_⟩
   have ct:=(hA _ (bh hX (.head _))).1.trans cM
   have hle:=nj hI (aQ h1.2) ct hv
   cases hv with
   | nk _ _ _ _ ad _ hn=>
    rw [show n=0 by omega,show tk 0 (dr off l)=[] by simp [tk]]
    exact .zero ⟨ad,0,rfl⟩
   | ts _ _ _ _ b cap s bo hn hx hs Fg d hd=>exact piece hI (aQ h1.2) ct bo hle (fun GI=>hd (by omega))
  ·cases hr
 | tf X z off n=>
  obtain ⟨t',l,hr,hX,cM⟩:=cJ (show eS h X _=some r from hr)
  split at hr
  ·rename_i l' hl
   obtain ⟨e,rfl⟩:=bJ hl
   cases e
   obtain ⟨h1,hk⟩:=ae hr
   simp only [zC] at h1
   obtain rfl:=beq_eq h1.1
   refine ⟨_,_,hk,fun S2 hA g w v hI hv=>?_⟩
   have ct:=(hA _ (bh hX (.head _))).1.trans cM
   cases hv with
   | vX _ _ _ _ ad _ hn=>
    rw [show n=0 by omega,show tk 0 (dr off l)=[] by simp [tk]]
    exact .zero ⟨ad,0,rfl⟩
   | tf _ _ _ _ b s bo hx hs d hd=>
    have hle:off+n≤l.length:=by
     rcases hI.cells _ _ ct with ⟨k1,_⟩ | ⟨b',zu,k1,_⟩
     ·rw [k1] at bo;cases bo
     rw [k1] at bo
     simp only [zI,zU] at bo
     obtain ⟨_,rfl⟩:=bo
     simp only [aS] at hs
     exact Nat.le_of_mul_le_mul_right hs (aQ h1.2)
    exact piece hI (aQ h1.2) ct bo hle hd
  ·cases hr
 | aa X π n z=>
  obtain ⟨sg,hk,hX,h2⟩:=ny (show ma h X π _=some r from hr)
  split at hk
  ·rename_i l hl
   obtain ⟨st,sx⟩:=sg
   obtain ⟨e,hl⟩:=bJ hl
   simp only at e hl h2
   subst e
   simp only at hl
   subst hl
   obtain ⟨h1,hk⟩:=ae hk
   refine ⟨_,_,hk,fun S2 hA g w v hI hv=>?_⟩
   obtain rfl:=beq_eq h1
   cases hv with
   | aa _ _ _ _ b cap s bo hp hn hx=>
    have ha:=hA _ (bh hX (.head _))
    obtain ⟨a,c,q1,q2⟩:=h2 g _ w _ hI ha.1 ha.2 (.tp X π b s bo hp)
    have e1:(sc (α:=t.T) t.bT n sx).flatMap (aB t)=aB (.arr n t) sx:=u_ _ _ _ _
    have e3:(sc (α:=t.T) t.bT n sx).length=n:=yf _ _ _
    have e2:(aB (.arr n t) sx).length=n*t.size:=bm (.arr n t) sx
    have:=hI.given (off:=b_ π) (sz:=t.size) (m:=n) (cap:=cap) q1 bo (by simp only [zY];rw [e2];omega)
    rw [←q2,List.drop_left,←e2,List.take_left,q2] at this
    exact Eq.subst (motive:=fun k=>Given g w _ t.size k _) e3.symm (Eq.subst (motive:=fun cs=>Given g w _ t.size n cs) e1.symm this)
  ·cases hk
 | sl q off z n=>
  unfold rj at hr
  simp only at hr
  split at hr
  ·rename_i cs hg
   obtain ⟨h1,hr⟩:=ae hr
   simp only [zC] at h1
   have hq:=aQ h1.1.1
   obtain rfl:=beq_eq h1.1.2
   split at hr
   ·rename_i l hy
    refine ⟨_,_,hr,fun S2 hA g w v hI hv=>?_⟩
    obtain ⟨z1,z2,z3⟩:=jO (g:=g) (fun cs x h=>eQ t cs x h) _ _ _ hy
    have cM:(hp h).ob q=some (.cells cs):=by rw [fw hq];unfold cY;rw [hg];rfl
    cases hv with
    | sl _ _ _ _ b cap s bo hn hx hs=>
     rw [z2]
     exact (hI.given ((hA q (az hq (.head _))).1.trans cM) bo (Nat.le_of_ble_eq_true h1.2)).conv z3
   ·cases hr
  ·cases hr
 | _=>cases hr
end
end
section
open Go.RowKit
section
variable {P:Program} {E:Env} {o:Oper} {ρ:Operand→A} {h:H} {β:Type} {K:A→H→Fp→Option β} {r:β}
theorem pN (t:Ty) (n:Nat) (x:t.T):(rep n x).flatMap (aB t)=kL n (aB t x):=by
 unfold rep kL
 induction n with
 | zero=>rfl
 | succ n ih=>rw [List.replicate_succ,List.replicate_succ,List.flatMap_cons,List.flatten_cons,ih]
def Qm (E:Env) (T:Nat) (same:Bool) (px:A) (h:H) (K:A→H→Fp→Option β):Option β:=match rL E T with
 | some el=>match bM E.cj el,px with
  | some e,.v (.int _ m)=>match e.t with
   | some t=>bif same && Nat.blt 0 e.size && Nat.ble (16777216*e.bytes) 281474976710656 then gd (bl m) (gd (bj (nN m) 16777216) (iY (.row t (rep (nN m) t.bT)) h (fun q h'=>K (.tw (.loc q) e.size) h' (.wr [b8 q])))) else none
   | none=>none
  | _,_=>none
 | none=>none
theorem EU (hE:bt P E) {T:Nat} {x y:Operand} {same:Bool} (ho:o.op = .makeSlice T x y) (hs:same=true→x=y) (hr:Qm E T same (ρ x) h K=some r):Out P o ρ h K r:=by
 have hd:∀c,o.op≠.defer c:=by rw [ho];intro c e;cases e
 unfold Qm at hr
 split at hr
 ·rename_i el he
  split at hr
  ·rename_i e k m ht hx
   split at hr
   ·rename_i t qV
    obtain ⟨h1,hr⟩:=ae hr
    simp only [zC] at h1
    obtain rfl:=hs h1.1.1
    obtain ⟨h2,hr⟩:=ba hr
    obtain ⟨h3,hr⟩:=ba hr
    have h3:nN m≤16777216:=h3
    obtain ⟨h',k1,hq,hf,hh⟩:=db hr
    have hk:=hE.cj _ _ ht
    have hb:=Nat.le_of_ble_eq_true h1.2
    refine ⟨_,_,_,k1,.of _ hh rfl (fun u hu=>by rcases zF.1 hu with rfl;exact az (o:=h.aL) hq (.head _)) (fun S2 hA=>?_) hd⟩
    have e1:dt.low (.row t (rep (nN m) t.bT)) = .cells (kL (nN m) (aB t t.bT)):=congrArg Ob.cells (pN t _ _)
    rw [e1]
    have mn:ρ x = .v (.int k ((nN m:Nat):Int)):=by rw [hx,jf h2]
    exact m5 ho (j5 hE he) hk.ti (aQ h1.1.2) mn mn (Nat.le_trans (zW _ h3) hb) (by omega) ((hA _ (az hq (.head _))).2.2 hf) (hk.tz t qV)
   ·cases hr
  ·cases hr
 ·cases hr
def FX (h:H) (X:Ref) (k:H→Option β):Option β:=bif qe h (eB X) then none else match X with
 | .loc o=>cO h.t o none (fun t1=>k { h with t:=t1 })
 | .cE r j=>match a7 h.rg r with
  | some ⟨_,.row t',c⟩=>bif Nat.blt r 64 then gd (bx j (len (α:=Option (List t'.T)) c)) (k { h with rg:=eR h.rg r (.row t') (upd (α:=Option (List t'.T)) c j none) }) else none
  | _=>none
theorem lZ {t:Ty} {c:List (Option (List t.T))} {j:Nat} (hj:j<c.length) (i:Nat):cn (.row t) (upd c j none) i=if i=j then none else cn (.row t) c i:=by
 show (match gy (upd c j none) i with | some (some l)=>some (Ob.cells (l.flatMap (aB t))) | _=>none)=if i=j then none else (match gy c i with | some (some l)=>some (Ob.cells (l.flatMap (aB t))) | _=>none)
 rw [kc]
 by_cases h:i=j
 ·subst h;rw [if_pos ⟨rfl,hj⟩,if_pos rfl]
 ·rw [if_neg (fun k=>h k.1),if_neg h]
theorem tB {X:Ref} {k:H→Option β} (hr:FX h X k=some r):∃h',k h'=some r∧uG X=true∧hp h'=app [.del X.id] (hp h)∧h'.aL=h.aL:=by
 obtain ⟨_,hr⟩:=eP hr
 cases X with
 | loc o=>
  obtain ⟨hq,t1,k1,k2⟩:=aY hr
  exact ⟨_,k1,by show Nat.blt o 16777216=true;simpa using (uN hq),mv (uN hq) k2,rfl⟩
 | cE r j=>
  simp only at hr
  split at hr
  ·rename_i _ t' c hf
   obtain ⟨h3,hr⟩:=ae hr
   obtain ⟨h4,hr⟩:=ba hr
   have du:j<List.length (α:=Option (List t'.T)) c:=h4
   refine ⟨_,hr,h3,?_,rfl⟩
   exact mu (j:=j) (u:=.del (cV r j)) (aQ h3) hf (lA (α:=Option (List t'.T)) c j _) (fun i hi=>by rw [lZ (c:=c) du,if_neg hi]) rfl (by rw [lZ (c:=c) du,if_pos rfl];exact if_pos rfl) rfl
  ·cases hr
def oF:A→Bool
 | .e0=>true
 | .v (.slice _ 0 0)=>true
 | _=>false
theorem V.uI {g:G} {p:A} {v:Value} (hv:V g p v) (h:oF p=true):∃ad,v = .slice ad 0 0:=by
 unfold oF at h
 split at h
 ·cases hv with | e0 ad=>exact ⟨ad,rfl⟩
 ·cases hv;exact ⟨_,rfl⟩
 ·cases h
theorem m8 {S:Hp} {T E':TypeId} {z b m n:Nat} {X:Ref} {zv:Value} {cs ps:List A} {x y:Operand} (ho:o.op = .call { callee:=.builtin .append,args:=#[x,y],argTypes:=#[T,T] }) (hT:P.underlying T=some (.slice E')) (hE:TI P E' z b zv) (h0:0<z)
  (hp:S.ob X.id=some (.cells cs)) (hx:ρ x = .ts X z 0 n) (oN:(n+m)*z≤cs.length) (hy:∀g w v,Inv g S w→V g (ρ y) v→Given g w v z m ps):cL P o ρ S (S.set X.id (.cells (put cs (n*z) ps))) (.ts X z 0 (n+m)):=
 .app ho fun g w a hI e1 e2=>by
  obtain ⟨i,t1,t2,t3,t4,t5,t6⟩:=hE
  subst t3 t4
  have Bi:cG P E' i.size:=⟨i,t1,rfl⟩
  obtain ⟨A2,ic,us,qh,kS,j6,uW⟩:=hy g w _ hI e2
  rw [hx] at e1
  generalize hu:a.eval x=vx at e1 ⊢
  cases e1 with
  | nk _ _ _ _ ad hg hn=>
   rcases hI.cells X.id cs hp with ⟨_,k2⟩ | ⟨b',t,k1,_⟩
   ·subst k2
    have hn:n=0:=by omega
    subst hn
    have hm:m=0:=by
     rcases Nat.eq_zero_or_pos m with h | h
     ·exact h
     ·have:0<(0+m)*i.size:=Nat.mul_pos (by omega) h0
      simp only [List.length_nil] at oN;omega
    subst hm
    have nf:ps=[]:=zZ (by rw [kS.1,j6];simp)
    subst nf
    have hS:S.set X.id (.cells (put [] (0*i.size) []))=S:=by
     refine Hp.ext' (fun j=>?_) (fun j=>Iff.rfl)
     show (if j=X.id then some (.cells (put [] (0*i.size) [])) else S.ob j)=S.ob j
     by_cases hj:j=X.id
     ·subst hj;rw [if_pos rfl,hp];simp [put]
     ·rw [if_neg hj]
    rw [hS,qh]
    exact ⟨_,g,w,dE w T E' o.type hT Bi _ A2 0 0 ic (Nat.le_refl _),.nk X i.size 0 (0+0) ad hg (by simp),hI,.refl S g w⟩
   ·rw [k1] at hg;cases hg
  | ts _ _ _ _ bk cap s hg OY GL hs Fg d hd hq=>
   rw [qh]
   rw [Nat.zero_add] at Fg hq
   have nf:ps.length=m*i.size:=by rw [kS.1,j6]
   have hlen:(put cs (n*i.size) ps).length=cs.length:=n_ (by rw [nf,←Nat.add_mul];exact oN)
   rcases hI.cells X.id cs hp with ⟨k1,_⟩ | ⟨b',t,k1,cur,ty,k2,kD,k3⟩
   ·rw [k1] at hg;cases hg
   have O4:=hg
   rw [k1] at hg;simp at hg
   obtain ⟨rfl,rfl⟩:=hg
   simp only at hq Fg hs
   have ld:n+m≤cap:=Nat.le_of_mul_le_mul_right (Nat.le_trans oN hq) h0
   have jh:(0+(n+m))*i.size≤(cs.length,t).1:=by rw [Nat.zero_add];exact oN
   have mo:∀g',g'.bc X.id=some (some b',(cs.length,t))→V g' (.ts X i.size 0 (n+m)) (.slice (some ⟨b',d,none⟩) (n+m) cap):=fun g' bo=>.ts X i.size 0 (n+m) b' cap _ bo ld GL jh (by rw [Nat.zero_add];exact Fg) d hd (by rw [Nat.zero_add];exact hq)
   rcases Nat.eq_zero_or_pos m with rfl | hm
   ·have nf:ps=[]:=zZ (by rw [nf];simp)
    subst nf
    have uT:put cs (n*i.size) []=cs:=by simp [put]
    have hS:S.set X.id (.cells (put cs (n*i.size) []))=S:=by
     rw [uT]
     refine Hp.ext' (fun j=>?_) (fun j=>Iff.rfl)
     show (if j=X.id then some (.cells cs) else S.ob j)=S.ob j
     by_cases hj:j=X.id
     ·subst hj;rw [if_pos rfl,hp]
     ·rw [if_neg hj]
    rw [hS]
    exact ⟨_,g,w,dE w T E' o.type hT Bi _ A2 n cap ic OY,mo g O4,hI,.refl S g w⟩
   ·obtain ⟨zm,rfl,iq⟩:=uW hm
    obtain rfl:=hd (by omega)
    have GH:(n+m)*i.size≤cs.length:=oN
    rw [Nat.add_mul] at GH
    obtain ⟨Yw,Zr,c1,c2,c3,c4⟩:=hI.store (off:=n*i.size) hp O4 kS (by rw [nf];exact GH)
    rw [k2] at c1
    simp only [zI,Obj.cells.injEq,and_true] at c1
    obtain ⟨rfl,rfl⟩:=c1
    have cU:=gk (P:=P) w T o.type E' ty i hT t1 b' n cap cur k2 zm m ic us j6 iq kS.one ld c2
    rw [Nat.zero_mul]
    exact ⟨_,g,_,cU,by have:=mo g O4;rwa [Nat.zero_mul] at this,c3,c4⟩
def Gl (E:Env) (T:Nat) (px py:A) (h:H) (K:A→H→Fp→Option β):Option β:=match rL E T with
 | some el=>match bM E.cj el with
  | some e=>match e.t with
   | some t=>bif Nat.blt 0 e.size && Nat.ble (16777216*e.bytes) 140737488355328 then rj h t py (fun l T1=>
    bif oF px then gd (bj (len l) 16777216) (iY (.row t l) h (fun q h'=>K (.tw (.loc q) e.size) h' (.pt (b8 q) T1)))
    else match px with
    | .tw X z=>eS h X (fun t' l0=>match c_ (.aF t') (.aF t) l0 with
     | some l0=>bif Nat.beq z e.size then gd (bj (aN (len (α:=t.T) l0) (len l)) 16777216) (FX h X (fun h1=>iY (.row t (cat (α:=t.T) l0 l)) h1 (fun q h2=>K (.tw (.loc q) e.size) h2 (.p2 (b8 q) (eB X) T1)))) else none
     | none=>none)
    | .ts X z 0 n=>eS h X (fun t' l0=>match c_ (.aF t') (.aF t) l0 with
     | some l0=>bif Nat.beq z e.size then (match py with
      | .ts _ _ _ _=>gd (bj (aN n (len l)) (len (α:=t.T) l0)) (l_ h X t (cat (tk (α:=t.T) n l0) (cat l (dr (α:=t.T) (aN n (len l)) l0))) (fun h1=>K (.ts X z 0 (aN n (len l))) h1 (.wr (eB X::T1))))
      | _=>gd (bj (aN n (len l)) 16777216) (FX h X (fun h1=>iY (.row t (cat (tk (α:=t.T) n l0) l)) h1 (fun q h2=>K (.tw (.loc q) e.size) h2 (.p2 (b8 q) (eB X) T1))))) else none
     | none=>none)
    | .tf X z off n=>br (ak (zN n) 0) (gd (bj (len l) 16777216) (iY (.row t l) h (fun q h'=>K (.tw (.loc q) e.size) h' (.pt (b8 q) T1)))) (eS h X (fun t' l0=>match c_ (.aF t') (.aF t) l0 with
     | some l0=>bif Nat.beq z e.size then gd (bx 0 (len l)) (gd (bj (aN n (len l)) 16777216) (iY (.row t (cat (tk n (dr (α:=t.T) off l0)) l)) h (fun q h2=>K (.tw (.loc q) e.size) h2 (.p2 (b8 q) (eB X) T1)))) else none
     | none=>none))
    | _=>none) else none
   | none=>none
  | none=>none
 | none=>none
theorem eM (t:Ty) (a b:List t.T):(cat a b).flatMap (aB t)=a.flatMap (aB t)++b.flatMap (aB t):=List.flatMap_append
theorem oQ (t:Ty) (n:Nat) (l:List t.T):(tk n l).flatMap (aB t)=(l.flatMap (aB t)).take (n*t.size):=by
 have:=eD t l 0 n
 simpa [tk] using this.symm
theorem oR (t:Ty) (n:Nat) (l:List t.T):(dr n l).flatMap (aB t)=(l.flatMap (aB t)).drop (n*t.size):=by
 have:=eD t l n l.length
 rw [za (by rw [List.length_drop,aS];omega),za (by simp)] at this
 exact this.symm
theorem DF {t:Ty} {X:Ref} {l:List t.T} {h1 h2:H} {T1:List Nat} {pv:A} (hd:∀c,o.op≠.defer c) (hX:uG X=true) (e1:hp h1=app [.del X.id] (hp h)) (hn:h1.aL=h.aL) (hq:h1.aL<16777216) (hf:(hp h1).fr h1.aL) (e2:hp h2=app [.new h1.aL (dt.row t l).low] (hp h1))
  (k:∀S2,Agree (.p2 (b8 h1.aL) (eB X) T1) (hp h) S2→S2.fr h1.aL→cL P o ρ S2 ((S2.del X.id).new h1.aL (.cells (l.flatMap (aB t)))) pv):Step P o ρ h h2 (.p2 (b8 h1.aL) (eB X) T1) pv:=
 .OL [.del X.id,.new h1.aL (.cells (l.flatMap (aB t)))] (by rw [e2,e1];rfl) (fun u hu=>by
  rcases List.mem_cons.1 hu with rfl | hu
  ·exact bh hX (.tail _ (.head _))
  ·rcases zF.1 hu with rfl;exact az (o:=h1.aL) hq (.head _)) (fun u hu=>by
  show touch (.wr [b8 h1.aL,eB X]) u.id=true
  rcases List.mem_cons.1 hu with rfl | hu
  ·exact bh hX (.tail _ (.head _))
  ·rcases zF.1 hu with rfl;exact az (o:=h1.aL) hq (.head _)) (fun S2 hA=>k S2 hA ((hA _ (az hq (.head _))).2.2 (by rw [e1] at hf;exact hf))) hd
theorem BL (hE:bt P E) {T:Nat} {x y:Operand} (ho:o.op = .call { callee:=.builtin .append,args:=#[x,y],argTypes:=#[T,T] }) (hr:Gl E T (ρ x) (ρ y) h K=some r):Out P o ρ h K r:=by
 have hd:∀c,o.op≠.defer c:=by rw [ho];intro c e;cases e
 unfold Gl at hr
 split at hr
 ·rename_i el he
  have hT:=j5 hE he
  split at hr
  ·rename_i e ht
   have hk:=hE.cj _ _ ht
   split at hr
   ·rename_i t qV
    have jh:=hk.ts t qV
    obtain ⟨hb,hr⟩:=ae hr
    simp only [zC] at hb
    have h0:=aQ hb.1
    have hb:=Nat.le_of_ble_eq_true hb.2
    have zk:∀{n:Nat},n≤16777216→n*e.bytes≤140737488355328∧n≤maxLen:=fun hn=>⟨Nat.le_trans (zW _ hn) hb,by unfold maxLen;omega⟩
    obtain ⟨l,T1,hr,oI⟩:=nV hr
    rw [jh] at oI
    cases Fk:oF (ρ x) with
    | true=>
     rw [Fk] at hr;simp only [cond_true] at hr
     obtain ⟨h2,hr⟩:=ba hr
     have h2:l.length≤16777216:=h2
     obtain ⟨h',k1,hq,hf,hh⟩:=db hr
     exact ⟨_,_,_,k1,.OL _ hh (fun u hu=>by rcases zF.1 hu with rfl;exact az (o:=h.aL) hq (.head _)) (fun u hu=>by rcases zF.1 hu with rfl;exact az (l:=[b8 h.aL]) (w:=false) (s:=[]) (o:=h.aL) hq (.head _))
      (fun S2 hA=>il ho hT hk.ti (fun g v hv=>hv.uI Fk) (oI S2 (hA.mono fun i hi=>.tail _ hi)) ((hA _ (az hq (.head _))).2.2 hf) (zk h2).1 (zk h2).2) hd⟩
    | false=>
     rw [Fk] at hr;simp only [cond_false] at hr
     split at hr
     ·rename_i X z hx
      obtain ⟨t',l0,hr,hX,cM⟩:=cJ hr
      split at hr
      ·rename_i OO hl
       obtain ⟨e',rfl⟩:=bJ hl
       cases e'
       obtain ⟨hz,hr⟩:=ae hr
       have hz:=beq_eq hz
       obtain ⟨h2,hr⟩:=ba hr
       have h2:l0.length+l.length≤16777216:=h2
       obtain ⟨h1,hr,_,e1,hn⟩:=tB hr
       obtain ⟨h',k1,hq,hf,hh⟩:=db hr
       refine ⟨_,_,_,k1,DF hd hX e1 hn hq hf hh (fun S2 hA jH=>?_)⟩
       have ct:=(hA _ (bh hX (.tail _ (.head _)))).1.trans cM
       have:=mg (P:=P) (n:=l0.length) (m:=l.length) (z:=e.size) ho hT hk.ti h0 ct (fun g w v hI hv=>by
        rw [hx,hz,←jh] at hv
        rcases hv.lO hI (by rw [jh];exact h0) ct with ⟨ad,_,rfl,rfl⟩ | ⟨b,s,cap,d,bo,rfl,k2,k3,k4,k5⟩
        ·exact .inl ⟨ad,rfl,rfl⟩
        ·exact .inr ⟨b,s,cap,d,bo,rfl,k2,k3,k4,by rw [←jh];exact k5⟩) (by rw [aS,jh];exact Nat.le_refl _) (oI S2 (hA.mono fun i hi=>.tail _ (.tail _ hi))) jH (zk h2).1 (zk h2).2
       rw [za (by rw [aS,jh];exact Nat.le_refl _),←eM] at this
       exact this
      ·cases hr
     ·rename_i X z n hx
      obtain ⟨t',l0,hr,hX,cM⟩:=cJ hr
      split at hr
      ·rename_i OO hl
       obtain ⟨e',rfl⟩:=bJ hl
       cases e'
       obtain ⟨hz,hr⟩:=ae hr
       have hz:=beq_eq hz
       split at hr
       ·obtain ⟨h2,hr⟩:=ba hr
        have h2:n+l.length≤l0.length:=h2
        obtain ⟨h1,k1,k2⟩:=iK hX hr
        refine ⟨_,_,_,k1,⟨fun i hi=>k2.1 i (kF (fun j hj=>by rcases zF.1 hj with rfl;exact .head _) hi),fun i hi=>k2.1 i (kF (T:=eB X::T1) (fun j hj=>by rcases zF.1 hj with rfl;exact .head _) (nh hi)),fun S2 hA=>?_⟩⟩
        refine cL.Dz (cL.bc fun g w a hI hv=>?_) hd
        have hv:=hv x (by simp [ho,Op.operands,Call.operands])
        have ct:=(hA _ (bh hX (.head _))).1.trans cM
        have LL:¬(hp h).fr X.id:=fun hf=>by
         have xP:=(hA _ (bh hX (.head _))).2.2 hf
         have:=hI.fresh _ xP
         rw [hx] at hv
         generalize a.eval x=vx at hv
         cases hv with
         | nk _ _ _ _ ad bo=>rw [bo] at this;cases this
         | ts _ _ _ _ b cap s bo=>rw [bo] at this;cases this
        have e1:=k2.2 LL
        have O9:touch (.wr (eB X::T1)) X.id=true:=bh hX (.head _)
        rw [e1,dG (fun u hu=>by rcases zF.1 hu with rfl;exact O9) hA]
        have:=m8 (P:=P) (n:=n) (m:=l.length) (X:=X) ho hT hk.ti h0 ct (by rw [hx,hz]) (by rw [aS,jh];exact zW _ h2) (oI S2 (hA.mono fun i hi=>.tail _ hi))
        have e2:put (l0.flatMap (aB t)) (n*e.size) (l.flatMap (aB t))=(cat (tk n l0) (cat l (dr (aN n (len l)) l0))).flatMap (aB t):=by
         rw [eM,eM,oQ,oR,jh]
         unfold put
         rw [aS,jh,←Nat.add_mul];rfl
        rw [e2] at this
        rw [hz]
        exact this
       ·obtain ⟨h2,hr⟩:=ba hr
        have h2:n+l.length≤16777216:=h2
        obtain ⟨h1,hr,_,e1,hn⟩:=tB hr
        obtain ⟨h',k1,hq,hf,hh⟩:=db hr
        refine ⟨_,_,_,k1,DF hd hX e1 hn hq hf hh (fun S2 hA jH=>cL.bc fun g0 w0 a0 L4 E9=>?_)⟩
        have ct:=(hA _ (bh hX (.tail _ (.head _)))).1.trans cM
        have hle:n≤l0.length:=by
         have hv:=E9 x (by simp [ho,Op.operands,Call.operands])
         rw [hx,hz,←jh] at hv
         have:=nj L4 (by rw [jh];exact h0) ct hv
         omega
        have:=mg (P:=P) (n:=n) (m:=l.length) (z:=e.size) ho hT hk.ti h0 ct (fun g w v hI hv=>by
         rw [hx,hz] at hv
         cases hv with
         | nk _ _ _ _ ad _ hn=>exact .inl ⟨ad,rfl,by omega⟩
         | ts _ _ _ _ b cap s bo k2 k3 k4 k5 d k6=>
          rw [Nat.zero_add] at k5
          exact .inr ⟨b,s,cap,d,bo,rfl,fun hc=>by rw [k6 hc,Nat.zero_mul],k2,k3,k5⟩) (by rw [aS,jh];exact zW _ hle) (oI S2 (hA.mono fun i hi=>.tail _ (.tail _ hi))) jH (zk h2).1 (zk h2).2
        rw [←jh,←oQ,←eM] at this
        rw [←jh]
        exact this
      ·cases hr
     ·rename_i X z off n hx
      rcases gh hr with ⟨GI,hr⟩ | ⟨_,hr⟩
      ·obtain ⟨h2,hr⟩:=ba hr
       have h2:l.length≤16777216:=h2
       have GI:n=0:=by have:=of_decide_eq_true GI;unfold zN at this;omega
       obtain ⟨h',k1,hq,hf,hh⟩:=db hr
       exact ⟨_,_,_,k1,.OL _ hh (fun u hu=>by rcases zF.1 hu with rfl;exact az (o:=h.aL) hq (.head _)) (fun u hu=>by rcases zF.1 hu with rfl;exact az (l:=[b8 h.aL]) (w:=false) (s:=[]) (o:=h.aL) hq (.head _))
        (fun S2 hA=>il ho hT hk.ti (fun g v hv=>by rw [hx,GI] at hv;cases hv<;>exact ⟨_,rfl⟩) (oI S2 (hA.mono fun i hi=>.tail _ hi)) ((hA _ (az hq (.head _))).2.2 hf) (zk h2).1 (zk h2).2) hd⟩
      obtain ⟨t',l0,hr,hX,cM⟩:=cJ hr
      split at hr
      ·rename_i OO hl
       obtain ⟨e',rfl⟩:=bJ hl
       cases e'
       obtain ⟨hz,hr⟩:=ae hr
       have hz:=beq_eq hz
       obtain ⟨h3,hr⟩:=ba hr
       have h3:0<l.length:=h3
       obtain ⟨h2,hr⟩:=ba hr
       have h2:n+l.length≤16777216:=h2
       obtain ⟨h',k1,hq,hf,hh⟩:=db hr
       refine ⟨_,_,_,k1,.OL _ hh (fun u hu=>by rcases zF.1 hu with rfl;exact az (o:=h.aL) hq (.head _)) (fun u hu=>by rcases zF.1 hu with rfl;exact az (l:=[b8 h.aL,eB X]) (w:=false) (s:=[]) (o:=h.aL) hq (.head _)) (fun S2 hA=>cL.bc fun g0 w0 a0 L4 E9=>?_) hd⟩
       have ct:=(hA _ (bh hX (.tail _ (.head _)))).1.trans cM
       have hle:off+n≤l0.length:=by
        have hv:=E9 x (by simp [ho,Op.operands,Call.operands])
        rw [hx,hz,←jh] at hv
        generalize a0.eval x=vx at hv
        cases hv with
        | vX _ _ _ _ _ _ hn=>omega
        | tf _ _ _ _ b s bo _ hs=>
         rcases L4.cells _ _ ct with ⟨k1,_⟩ | ⟨b',zu,k1,_⟩
         ·rw [k1] at bo;cases bo
         rw [k1] at bo
         simp only [zI,zU] at bo
         obtain ⟨_,rfl⟩:=bo
         simp only [aS] at hs
         exact Nat.le_of_mul_le_mul_right hs (by rw [jh];exact h0)
       have:=lr (P:=P) (off:=off*e.size) (n:=n) (m:=l.length) (z:=e.size) ho hT hk.ti h0 (fun g w v hI hv=>by
        rw [hx,hz] at hv
        cases hv with
        | vX _ _ _ _ ad _ hn=>exact .inl ⟨ad,rfl,by omega⟩
        | tf _ _ _ _ b s bo _ _ d k6=>exact .inr ⟨b,s,d,bo,rfl,k6⟩) ct (by rw [aS,jh,←Nat.add_mul];exact zW _ hle) (oI S2 (hA.mono fun i hi=>.tail _ (.tail _ hi))) h3 ((hA _ (az hq (.head _))).2.2 hf) (zk h2).1 (zk h2).2
       rw [←jh,eD,←eM] at this
       rw [←jh]
       exact this
      ·cases hr
     ·cases hr
   ·cases hr
  ·cases hr
 ·cases hr
end
end
section
open Go.RowKit
theorem iP {α β:Type} {f:α→List β} {s:Nat} (hf:∀x,(f x).length=s) (l:List α):(l.flatMap f).length=l.length*s:=by
 induction l with
 | nil=>simp
 | cons a l ih=>rw [List.flatMap_cons,zY,ih,hf,zR,Nat.succ_mul,Nat.add_comm]
theorem r_ {α β:Type} {f:α→List β} {s:Nat} (hf:∀x,(f x).length=s) (l:List α) (off n:Nat):((l.flatMap f).drop (off*s)).take (n*s)=((l.drop off).take n).flatMap f:=by
 have h1:l.flatMap f=(l.take off).flatMap f++(l.drop off).flatMap f:=by rw [←List.flatMap_append,zP]
 by_cases hl:off≤l.length
 ·have h2:((l.take off).flatMap f).length=off*s:=by rw [iP hf,List.length_take,Nat.min_eq_left hl]
  rw [h1,List.drop_append,List.drop_eq_nil_of_le (by omega),List.nil_append,h2,Nat.sub_self,List.drop_zero]
  generalize l.drop off=k
  have h3:k.flatMap f=(k.take n).flatMap f++(k.drop n).flatMap f:=by rw [←List.flatMap_append,zP]
  by_cases hk:n≤k.length
  ·have h4:((k.take n).flatMap f).length=n*s:=by rw [iP hf,List.length_take,Nat.min_eq_left hk]
   rw [h3,List.take_append_of_le_length (by omega),za (by omega)]
  ·rw [za (by rw [iP hf];exact zW _ (by omega)),za (l:=k) (by omega)]
 ·rw [List.drop_eq_nil_of_le (as:=l) (by omega),List.drop_eq_nil_of_le (by rw [iP hf];exact zW _ (by omega))]
  simp
def lv (ad:Option Addr) (z lo hi c:Nat):Value:=.slice (if c=lo then ad else ad.map (·.add (lo*z))) (hi-lo) (c-lo)
theorem V.rf {g:G} {t:Ty} {f f':Bool} {l:List t.T} {lo hi:Nat} {v:Value} (hv:V g (.tl t f l) v) (h1:lo≤hi) (h2:hi≤l.length) :
  ∃ad cap,v = .slice ad l.length cap∧l.length≤cap∧(f=true→cap=l.length)∧∀c,hi≤c→c≤cap→(f'=true→c=hi)→V g (.tl t f' (tk (hi-lo) (dr lo l))) (lv ad t.size lo hi c):=by
 cases hv with
 | tl _ _ _ _ hd=>
  generalize lG:List.map (cu t) l=es at hd
  have kU:es.length=l.length:=by rw [←lG,zH]
  have Fq:es.flatten=l.flatMap (cu t):=by rw [←lG,gA]
  cases hd with
  | pG=>
   have:l=[]:=zZ kU.symm
   subst this
   refine ⟨_,0,rfl,Nat.le_refl _,fun _=>rfl,fun c k1 k2 k3=>?_⟩
   have hc:c=0:=by omega
   have hl:lo=0:=by simp at h2;omega
   have hh:hi=0:=by simpa using h2
   subst hc hl hh
   exact .tl t f' _ _ (by rw [show tk (0-0) (dr 0 ([]:List t.T))=[] by simp [tk]];exact .pG _ _ _)
  | sl _ _ _ a cap vs hz hc hf hn hx hl hm zg=>
   rw [kU] at hc hf
   rw [kU]
   refine ⟨_,cap,rfl,hc,hf,fun c k1 k2 k3=>?_⟩
   unfold lv
   by_cases oN:c=lo
   ·have e1:hi-lo=0:=by omega
    rw [if_pos oN,e1,show c-lo=0 by omega]
    exact .tl t f' _ _ (by rw [show tk 0 (dr lo l)=[] by simp [tk]];exact .pG _ _ _)
   ·rw [if_neg oN]
    cases a with
    | none=>have:=hn rfl;omega
    | some p=>
     have hlen:(tk (hi-lo) (dr lo l)).length=hi-lo:=by simp [tk,dr];omega
     have xG:=r_ (f:=cu t) (fun x=>cK t x) l lo (hi-lo)
     rw [Fq] at hl zg
     have e2:((tk (hi-lo) (dr lo l)).map (cu t)).flatten=((l.flatMap (cu t)).drop (lo*t.size)).take ((hi-lo)*t.size):=by rw [gA,xG];rfl
     have:=VD.sl (M:=g.mem) t.size f' ((tk (hi-lo) (dr lo l)).map (cu t)) (some (p.1,p.2+lo*t.size)) (c-lo) ((vs.drop (lo*t.size)).take ((hi-lo)*t.size))
      (fun e he=>by obtain ⟨x,_,rfl⟩:=List.mem_map.1 he;exact cK t x) (by rw [zH,hlen];omega) (fun h=>by rw [zH,hlen,k3 h]) (fun h=>by cases h) (by omega)
      (by rw [e2];simp only [List.length_take,List.length_drop,hl])
      (fun q j x hq hj=>by
       cases hq
       rw [List.getElem?_take] at hj
       split at hj
       ·rw [List.getElem?_drop] at hj
        have:=hm p _ x rfl hj
        rw [←Nat.add_assoc] at this;exact this
       ·cases hj)
      (fun j d x hj O2=>by
       rw [e2] at hj
       rw [List.getElem?_take] at hj O2
       split at hj
       ·rename_i du
        rw [if_pos du] at O2
        rw [List.getElem?_drop] at hj O2
        exact zg _ d x hj O2
       ·cases hj)
     rw [zH,hlen] at this
     have e3:Option.map (fun x:Addr=>x.add (lo*t.size)) (Option.map Ph (some p))=Option.map Ph (some (p.1,p.2+lo*t.size)):=congrArg some (Addr.add_lit _ _ _)
     rw [e3]
     exact .tl t f' _ _ this
section
variable {P:Program} {E:Env} {o:Oper} {ρ:Operand→A} {h:H} {β:Type} {K:A→H→Fp→Option β} {r:β}
def vo (ox:Option A) (d:Nat) (k:Nat→Option β):Option β:=match ox with
 | none=>k d
 | some (.v (.int _ m))=>gd (bl m) (k (nN m))
 | _=>none
theorem fJ {x:Option Operand} {d:Nat} {k:Nat→Option β} (hr:vo (x.map ρ) d k=some r):∃n,k n=some r∧Bd ρ d x n:=by
 unfold vo at hr
 split at hr
 ·rename_i hx
  cases x with
  | none=>exact ⟨d,hr,rfl⟩
  | some y=>cases hx
 ·rename_i kd m hx
  cases x with
  | none=>cases hx
  | some y=>
   obtain ⟨h1,h2⟩:=ba hr
   refine ⟨_,h2,kd,?_⟩
   rw [jf h1]
   exact Option.some.inj hx
 ·cases hr
theorem V.CX {g:G} {S:Hp} {w:World} (hI:Inv g S w) {X:Ref} {t:Ty} {l:List t.T} (h0:0<t.size) (ho:S.ob X.id=some (.cells (l.flatMap (aB t)))) {v:Value} (hv:V g (.tw X t.size) v) {lo hi:Nat} (h1:lo≤hi) (h2:hi≤l.length) :
  ∃ad cap,v = .slice ad l.length cap∧l.length≤cap∧V g (.ts X t.size lo (hi-lo)) (lv ad t.size lo hi cap)∧V g (.tf X t.size lo (hi-lo)) (lv ad t.size lo hi hi):=by
 have hlen:=aS t l
 rcases hv.lO hI h0 ho with ⟨ad,bo,rfl,rfl⟩ | ⟨b,s,cap,d,bo,rfl,k2,k3,k4,k5⟩
 ·have hh:hi=0:=by simpa using h2
  have hl:lo=0:=by omega
  subst hh hl
  exact ⟨ad,0,rfl,Nat.le_refl _,.nk X t.size 0 _ ad bo rfl,.vX X t.size 0 _ ad bo rfl⟩
 ·have hs:s.1=l.length*t.size:=by
   rcases hI.cells _ _ ho with ⟨k1,_⟩ | ⟨b',zu,k1,_⟩
   ·rw [k1] at bo;cases bo
   rw [k1] at bo
   simp only [zI,zU] at bo
   obtain ⟨_,rfl⟩:=bo
   exact hlen
  have fY:(lo+(hi-lo))*t.size≤s.1:=by rw [hs];exact zW _ (by omega)
  refine ⟨_,cap,rfl,k3,?_,?_⟩
  ·unfold lv
   by_cases hc:cap=lo
   ·rw [if_pos hc]
    refine .ts X t.size lo (hi-lo) b (cap-lo) s bo (by omega) (by omega) fY ?_ d (fun h=>by omega) ?_
    ·rw [show lo+(cap-lo)=cap by omega];exact k5
    ·rw [show lo+(cap-lo)=cap by omega,hs];exact zW _ k3
   ·rw [if_neg hc,Option.map_some,Addr.add_lit]
    have hd:=k2 (by omega)
    refine .ts X t.size lo (hi-lo) b (cap-lo) s bo (by omega) (by omega) fY ?_ _ (fun _=>by omega) ?_
    ·rw [show lo+(cap-lo)=cap by omega];exact k5
    ·rw [show lo+(cap-lo)=cap by omega,hs];exact zW _ k3
  ·unfold lv
   by_cases hc:hi=lo
   ·rw [if_pos hc]
    exact .tf X t.size lo (hi-lo) b s bo (by omega) fY d (fun h=>by omega)
   ·rw [if_neg hc,Option.map_some,Addr.add_lit]
    have hd:=k2 (by omega)
    exact .tf X t.size lo (hi-lo) b s bo (by omega) fY _ (fun _=>by omega)
theorem V.I5 {g:G} {S:Hp} {w:World} (hI:Inv g S w) {X:Ref} {t:Ty} {l:List t.T} (h0:0<t.size) (ho:S.ob X.id=some (.cells (l.flatMap (aB t)))) {off n:Nat} {v:Value} (hv:V g (.ts X t.size off n) v) {lo hi:Nat} (h1:lo≤hi) (h2:off+hi≤l.length) :
  ∃ad cap,v = .slice ad n cap∧hi≤cap∧V g (.ts X t.size (off+lo) (hi-lo)) (lv ad t.size lo hi cap)∧V g (.tf X t.size (off+lo) (hi-lo)) (lv ad t.size lo hi hi):=by
 have hlen:=aS t l
 cases hv with
 | nk _ _ _ _ ad bo hn=>
  rcases hI.cells _ _ ho with ⟨_,k2⟩ | ⟨b',zu,k1,_⟩
  ·rw [k2] at hlen
   have hl:l.length=0:=by
    rcases Nat.eq_zero_or_pos l.length with h | h
    ·exact h
    ·have:0<l.length*t.size:=Nat.mul_pos h h0
     simp at hlen;omega
   have hh:hi=0:=by omega
   have hl:lo=0:=by omega
   have XH:off=0:=by omega
   have QU:n=0:=by omega
   subst hh hl XH QU
   exact ⟨ad,0,rfl,Nat.le_refl _,.nk X t.size _ _ ad bo rfl,.vX X t.size _ _ ad bo rfl⟩
  ·rw [k1] at bo;cases bo
 | ts _ _ _ _ b cap s bo hn hx hs hp d hd hq=>
  have GF:s.1=l.length*t.size:=by
   rcases hI.cells _ _ ho with ⟨k1,_⟩ | ⟨b',zu,k1,_⟩
   ·rw [k1] at bo;cases bo
   rw [k1] at bo
   simp only [zI,zU] at bo
   obtain ⟨_,rfl⟩:=bo
   exact hlen
  have X4:l.length≤off+cap:=by rw [GF] at hq;exact Nat.le_of_mul_le_mul_right hq h0
  have fY:(off+lo+(hi-lo))*t.size≤s.1:=by rw [GF];exact zW _ (by omega)
  refine ⟨_,cap,rfl,by omega,?_,?_⟩
  ·unfold lv
   by_cases hc:cap=lo
   ·rw [if_pos hc]
    refine .ts X t.size (off+lo) (hi-lo) b (cap-lo) s bo (by omega) (by omega) fY ?_ d (fun h=>by omega) ?_
    ·rw [show off+lo+(cap-lo)=off+cap by omega];exact hp
    ·rw [show off+lo+(cap-lo)=off+cap by omega];exact hq
   ·rw [if_neg hc,Option.map_some,Addr.add_lit]
    have hd:=hd (by omega)
    refine .ts X t.size (off+lo) (hi-lo) b (cap-lo) s bo (by omega) (by omega) fY ?_ _ (fun _=>by rw [hd,Nat.add_mul]) ?_
    ·rw [show off+lo+(cap-lo)=off+cap by omega];exact hp
    ·rw [show off+lo+(cap-lo)=off+cap by omega];exact hq
  ·unfold lv
   by_cases hc:hi=lo
   ·rw [if_pos hc]
    exact .tf X t.size (off+lo) (hi-lo) b s bo (by omega) fY d (fun h=>by omega)
   ·rw [if_neg hc,Option.map_some,Addr.add_lit]
    have hd:=hd (by omega)
    exact .tf X t.size (off+lo) (hi-lo) b s bo (by omega) fY _ (fun _=>by rw [hd,Nat.add_mul])
def v7 (E:Env) (T:Nat) (px:A) (lo hi mx:Option A) (same:Bool) (h:H) (K:A→H→Fp→Option β):Option β:=match bM E.cj T with
 | some ⟨.slice el,_,_,_,_,_,_⟩=>match bM E.cj el with
  | some e=>match px with
   | .e0=>vo lo 0 (fun l=>vo hi 0 (fun n=>gd (bj l n) (gd (bj n 0) (match mx with
    | none=>K .e0 h (.rd [])
    | some _=>bif same && hi.isSome then K .e0 h (.rd []) else none))))
   | .tl t f x=>bif Nat.beq e.size t.size then vo lo 0 (fun l=>vo hi (len x) (fun n=>gd (bj l n) (gd (bj n (len x)) (match mx with
    | none=>K (.tl t (f && hi.isNone) (tk (ay n l) (dr l x))) h .no
    | some _=>bif same && hi.isSome then K (.tl t true (tk (ay n l) (dr l x))) h .no else none)))) else none
   | .tw X z=>eS h X (fun t x=>bif Nat.beq z e.size && Nat.beq z t.size && Nat.blt 0 z then vo lo 0 (fun l=>vo hi (len x) (fun n=>gd (bj l n) (gd (bj n (len x)) (match mx with
    | none=>K (.ts X z l (ay n l)) h (.rd [eB X])
    | some _=>bif same && hi.isSome then K (.tf X z l (ay n l)) h (.rd [eB X]) else none)))) else none)
   | .ts X z off m=>eS h X (fun t x=>bif Nat.beq z e.size && Nat.beq z t.size && Nat.blt 0 z then vo lo 0 (fun l=>vo hi m (fun n=>gd (bj l n) (gd (bj (aN off n) (len x)) (match mx with
    | none=>K (.ts X z (aN off l) (ay n l)) h (.rd [eB X])
    | some _=>bif same && hi.isSome then K (.tf X z (aN off l) (ay n l)) h (.rd [eB X]) else none)))) else none)
   | _=>none
  | none=>none
 | some ⟨.array n el,_,_,_,_,_,_⟩=>match bM E.cj el with
  | some e=>bif lo.isNone && hi.isNone && mx.isNone && Nat.ble n 16777216 then (match px with
   | .tp X π=>K (.aa X π n e.size) h .no
   | .ptr q off=>match h.t.get q with
    | some (.cells cs)=>bif Nat.blt q 16777216 && Nat.ble (off+n*e.size) cs.length then K (.sl q off e.size n) h (.rd [b8 q]) else none
    | _=>none
   | _=>none) else none
  | none=>none
 | _=>none
theorem isNone_map {x:Option Operand} (h:(x.map ρ).isNone=true):x=none:=by cases x with | none=>rfl | some y=>cases h
theorem isSome_map {x:Option Operand} (h:(x.map ρ).isSome=true):∃y,x=some y:=by cases x with | none=>cases h | some y=>exact ⟨y,rfl⟩
theorem lE {S:Hp} {T E':TypeId} {x:Operand} {lo hi mx:Option Operand} {z l n d:Nat} {pv pw:A} (ho:o.op = .slice T x lo hi mx) (hT:P.underlying T=some (.slice E')) (hE:cG P E' z) (oL:Bd ρ 0 lo l) (oM:Bd ρ d hi n) (h1:l≤n)
  (hr:∀g w v,Inv g S w→V g (ρ x) v→∃ad cap,v = .slice ad d cap∧n≤cap∧(mx=none→V g pv (lv ad z l n cap))∧(mx=hi→V g pw (lv ad z l n n))):(mx=none→cL P o ρ S S pv)∧(mx=hi→hi≠none→cL P o ρ S S pw):=
 ⟨fun hm=>by
  subst hm
  exact uw ho hT hE oL h1 (fun g w v hI hv=>let ⟨ad,cap,k1,k2,k3,_⟩:=hr g w v hI hv;⟨ad,d,cap,k1,oM,k2,k3 rfl⟩),
 fun hm hn=>by
  subst hm
  cases Q8:mx with
  | none=>exact absurd Q8 hn
  | some y=>
   subst Q8
   exact mb (hi:=y) (mx:=y) ho hT hE oL oM oM h1 (Nat.le_refl _) (fun g w v hI hv=>let ⟨ad,cap,k1,k2,_,k4⟩:=hr g w v hI hv;⟨ad,d,cap,k1,k2,k4 rfl⟩)⟩
theorem nX (hE:bt P E) {T:Nat} {x:Operand} {lo hi mx:Option Operand} {same:Bool} (ho:o.op = .slice T x lo hi mx) (hs:same=true→mx=hi) (hr:v7 E T (ρ x) (lo.map ρ) (hi.map ρ) (mx.map ρ) same h K=some r):Out P o ρ h K r:=by
 have hd:∀c,o.op≠.defer c:=by rw [ho];intro c e;cases e
 unfold v7 at hr
 split at hr
 ·rename_i el _ _ _ _ _ _ ht
  have hT:=(hE.cj _ _ ht).u
  split at hr
  ·rename_i e he
   have hz:=(hE.cj _ _ he).ti.size
   have fin:∀{T':List Nat} {pv pw:A} {Sx:Hp→Prop},(∀S2,Agree (.rd T') (hp h) S2→(mx=none→cL P o ρ S2 S2 pv)∧(mx=hi→hi≠none→cL P o ρ S2 S2 pw))→(match mx.map ρ with | none=>K pv h (.rd T') | some _=>bif same && (hi.map ρ).isSome then K pw h (.rd T') else none)=some r→Out P o ρ h K r:=fun {T' pv pw Sx} k hr=>by
    cases hm:mx with
    | none=>
     rw [hm] at hr
     exact .read _ hr (fun S2 hA=>(k S2 hA).1 hm) hd
    | some y=>
     rw [hm] at hr
     obtain ⟨h1,hr⟩:=ae hr
     simp only [zC] at h1
     obtain ⟨y',rP⟩:=isSome_map h1.2
     exact .read _ hr (fun S2 hA=>(k S2 hA).2 (hs h1.1) (by rw [rP];intro h;cases h)) hd
   split at hr
   ·rename_i hx
    obtain ⟨l,hr,oL⟩:=fJ hr
    obtain ⟨n,hr,oM⟩:=fJ hr
    obtain ⟨h1,hr⟩:=ba hr
    obtain ⟨h2,hr⟩:=ba hr
    have h1:l≤n:=h1
    have h2:n≤0:=h2
    have hn:n=0:=by omega
    have hl:l=0:=by omega
    subst hn hl
    exact fin (T':=[]) (Sx:=fun _=>True) (fun S2 _=>lE (pw:=.e0) ho hT hz oL oM h1 (fun g w v hI hv=>by
     rw [hx] at hv
     cases hv with
     | e0 ad=>exact ⟨ad,0,rfl,Nat.le_refl _,fun _=>.e0 _,fun _=>.e0 _⟩)) hr
   ·rename_i t f x' hx
    obtain ⟨hq,hr⟩:=ae hr
    have hq:=beq_eq hq
    obtain ⟨l,hr,oL⟩:=fJ hr
    obtain ⟨n,hr,oM⟩:=fJ hr
    obtain ⟨h1,hr⟩:=ba hr
    obtain ⟨h2,hr⟩:=ba hr
    have h1:l≤n:=h1
    have h2:n≤x'.length:=h2
    refine fin (T':=[]) (Sx:=fun _=>True) (fun S2 _=>lE ho hT hz oL oM h1 (fun g w v hI hv=>?_)) hr
    rw [hx] at hv
    obtain ⟨ad,cap,k1,k2,k3,_⟩:=hv.rf (f':=f && (hi.map ρ).isNone) h1 h2
    refine ⟨ad,cap,k1,by omega,fun hm=>?_,fun _=>?_⟩
    ·obtain ⟨YG,TK,j1,j2,j3,j4⟩:=hv.rf (f':=f && (hi.map ρ).isNone) h1 h2
     rw [k1] at j1;cases j1
     rw [hq]
     refine j4 cap (by omega) (Nat.le_refl _) (fun hf=>?_)
     simp only [zC] at hf
     have hh:=isNone_map hf.2
     subst hh
     have:n=len x':=oM
     rw [k3 hf.1,this];rfl
    ·obtain ⟨YG,TK,j1,j2,j3,j4⟩:=hv.rf (f':=true) h1 h2
     rw [k1] at j1;cases j1
     rw [hq]
     exact j4 n (Nat.le_refl _) (by omega) (fun _=>rfl)
   ·rename_i X z hx
    obtain ⟨t,x',hr,hX,cM⟩:=cJ hr
    obtain ⟨hq,hr⟩:=ae hr
    simp only [zC] at hq
    have GG:=beq_eq hq.1.1
    have xF:=beq_eq hq.1.2
    have h0:=aQ hq.2
    obtain ⟨l,hr,oL⟩:=fJ hr
    obtain ⟨n,hr,oM⟩:=fJ hr
    obtain ⟨h1,hr⟩:=ba hr
    obtain ⟨h2,hr⟩:=ba hr
    have h1:l≤n:=h1
    have h2:n≤x'.length:=h2
    refine fin (T':=[eB X]) (Sx:=fun _=>True) (fun S2 hA=>lE ho hT hz oL oM h1 (fun g w v hI hv=>?_)) hr
    have ct:=(hA _ (bh hX (.head _))).1.trans cM
    rw [hx,xF] at hv
    obtain ⟨ad,cap,k1,k2,k3,k4⟩:=hv.CX hI (by omega) ct h1 h2
    rw [←xF] at k3 k4
    rw [←GG]
    exact ⟨ad,cap,k1,by omega,fun _=>k3,fun _=>k4⟩
   ·rename_i X z off m hx
    obtain ⟨t,x',hr,hX,cM⟩:=cJ hr
    obtain ⟨hq,hr⟩:=ae hr
    simp only [zC] at hq
    have GG:=beq_eq hq.1.1
    have xF:=beq_eq hq.1.2
    have h0:=aQ hq.2
    obtain ⟨l,hr,oL⟩:=fJ hr
    obtain ⟨n,hr,oM⟩:=fJ hr
    obtain ⟨h1,hr⟩:=ba hr
    obtain ⟨h2,hr⟩:=ba hr
    have h1:l≤n:=h1
    have h2:off+n≤x'.length:=h2
    refine fin (T':=[eB X]) (Sx:=fun _=>True) (fun S2 hA=>lE ho hT hz oL oM h1 (fun g w v hI hv=>?_)) hr
    have ct:=(hA _ (bh hX (.head _))).1.trans cM
    rw [hx,xF] at hv
    obtain ⟨ad,cap,k1,k2,k3,k4⟩:=hv.I5 hI (by omega) ct h1 h2
    rw [←xF] at k3 k4
    rw [←GG]
    exact ⟨ad,cap,k1,k2,fun _=>k3,fun _=>k4⟩
   ·cases hr
  ·cases hr
 ·rename_i n el _ _ _ _ _ _ ht
  have hT:=(hE.cj _ _ ht).u
  split at hr
  ·rename_i e he
   have hz:=(hE.cj _ _ he).ti.size
   obtain ⟨h1,vC⟩:=ae hr
   clear hr
   simp only [zC] at h1
   have e1:=isNone_map h1.1.1.1
   have e2:=isNone_map h1.1.1.2
   have e3:=isNone_map h1.1.2
   have hn:=Nat.le_of_ble_eq_true h1.2
   clear h1
   subst e1 e2 e3
   split at vC
   ·rename_i X π hx
    exact .pure vC (fun S2=>jd ho hT ⟨_,hz⟩ (fun g w v hI hv=>by
     rw [hx] at hv
     cases hv with
     | tp _ _ b s bo hk=>exact ⟨b,_,rfl,.aa X π n e.size b n s bo hk (Nat.le_refl _) (by unfold maxLen;omega)⟩)) hd
   ·rename_i q off hx
    split at vC
    ·rename_i cs hg
     obtain ⟨h2,vC⟩:=ae vC
     simp only [zC] at h2
     have hq:=aQ h2.1
     have h3:=Nat.le_of_ble_eq_true h2.2
     have cM:(hp h).ob q=some (.cells cs):=by rw [fw hq];unfold cY;rw [hg];rfl
     exact .read _ vC (fun S2 hA=>jd ho hT ⟨_,hz⟩ (fun g w v hI hv=>by
      rw [hx] at hv
      cases hv with
      | ptr _ _ b s bo=>
       have hs:s.1=cs.length:=by
        rcases hI.cells _ _ ((hA q (az hq (.head _))).1.trans cM) with ⟨k1,_⟩ | ⟨b',zu,k1,_⟩
        ·rw [k1] at bo;cases bo
        rw [k1] at bo
        simp only [zI,zU] at bo
        obtain ⟨_,rfl⟩:=bo
        rfl
       exact ⟨b,off,rfl,.sl q off e.size n b n s bo (Nat.le_refl _) (by unfold maxLen;omega) (by rw [hs];exact h3)⟩)) hd
    ·cases vC
   ·cases vC
  ·cases hr
 ·cases hr
end
end
section
open Go.RowKit
section
variable {P:Program} {E:Env} {o:Oper} {ρ:Operand→A} {h:H} {β:Type} {K:A→H→Fp→Option β} {r:β}
theorem Step.put {h1:H} {X:Ref} {x:Ob} {T1:List Nat} {pv:A} (hd:∀c,o.op≠.defer c) (hX:uG X=true) (k2:qN h h1 X x) (uk:∀(g:G) (S:Hp) (w:World) (a:Act),Inv g S w→(∀x∈o.op.operands,V g (ρ x) (a.eval x))→g.bc X.id≠none)
  (k:∀S2,Agree (.pt (eB X) T1) (hp h) S2→cL P o ρ S2 (S2.set X.id x) pv):Step P o ρ h h1 (.pt (eB X) T1) pv where
 out:=fun i hi=>k2.1 i (by
  have hi:(false || (eB X::T1).any (Nat.beq (res i)))=false:=hi
  rw [List.any_cons,Bool.or_eq_false_iff,Bool.or_eq_false_iff] at hi
  show (false || [eB X].any (Nat.beq (res i)))=false
  rw [List.any_cons,hi.2.1];rfl)
 rd:=fun i hi=>k2.1 i (by simpa [wt,touch,Fp.pt,Fp.wr] using hi)
 ok:=fun S2 hA=>by
  refine cL.Dz (cL.bc fun g w a hI hv=>?_) hd
  have O9:touch (.pt (eB X) T1) X.id=true:=bh hX (.head _)
  have LL:¬(hp h).fr X.id:=fun hf=>uk g S2 w a hI hv (hI.fresh _ ((hA _ O9).2.2 hf))
  rw [k2.2 LL,dG (fun u hu=>by rcases zF.1 hu with rfl;exact O9) hA]
  exact k S2 hA
theorem V.YF {g:G} {X:Ref} {z:Nat} {v:Value} (hv:V g (.tw X z) v):g.bc X.id≠none:=by cases hv<;>simp_all
theorem V.TM {g:G} {X:Ref} {z off n:Nat} {v:Value} (hv:V g (.ts X z off n) v):g.bc X.id≠none:=by cases hv<;>simp_all
def yA (E:Env) (T:Nat) (px py:A) (h:H) (K:A→H→Fp→Option β):Option β:=match rL E T with
 | some el=>match bM E.cj el with
  | some e=>match e.t,px with
   | some t,.tw X z=>bif Nat.blt 0 e.size then rj h t py (fun l T1=>eS h X (fun t' l0=>match c_ (.aF t') (.aF t) l0 with
    | some l0=>bif Nat.beq z e.size then gd (bx 0 (len (α:=t.T) l0)) (gd (bj (len l) (len (α:=t.T) l0)) (l_ h X t (cat l (dr (α:=t.T) (len l) l0)) (fun h1=>K (.v (.int .i64 (zN (len l)))) h1 (.pt (eB X) T1)))) else none
    | none=>none)) else none
   | _,_=>none
  | none=>none
 | none=>none
theorem yz (hE:bt P E) {T T':Nat} {x y:Operand} (ho:o.op = .call { callee:=.builtin .copy,args:=#[x,y],argTypes:=#[T,T'] }) (hr:yA E T (ρ x) (ρ y) h K=some r):Out P o ρ h K r:=by
 have hd:∀c,o.op≠.defer c:=by rw [ho];intro c e;cases e
 unfold yA at hr
 split at hr
 ·rename_i el he
  split at hr
  ·rename_i e ht
   have hk:=hE.cj _ _ ht
   split at hr
   ·rename_i t X z qV hx
    have jh:=hk.ts t qV
    obtain ⟨h0,hr⟩:=ae hr
    have h0:=aQ h0
    obtain ⟨l,T1,hr,oI⟩:=nV hr
    obtain ⟨t',l0,hr,hX,cM⟩:=cJ hr
    split at hr
    ·rename_i OO hl
     obtain ⟨e',rfl⟩:=bJ hl
     cases e'
     obtain ⟨hz,hr⟩:=ae hr
     have hz:=beq_eq hz
     obtain ⟨h1,hr⟩:=ba hr
     have h1:0<l0.length:=h1
     obtain ⟨h2,hr⟩:=ba hr
     have h2:l.length≤l0.length:=h2
     obtain ⟨h',k1,k2⟩:=iK hX hr
     refine ⟨_,_,_,k1,.put hd hX k2 (fun g S w a hI hv=>?_) (fun S2 hA=>?_)⟩
     ·have hv:=hv x (by simp [ho,Op.operands,Call.operands])
      rw [hx] at hv
      exact hv.YF
     ·have ct:=(hA _ (bh hX (.head _))).1.trans cM
      have:=wY (P:=P) (ρ:=ρ) (n:=l0.length) (m:=l.length) (off:=0) (z:=e.size) ho (j5 hE he) hk.ti.size (fun g w v hI hv=>by
       rw [hx,hz,←jh] at hv
       rcases hv.lO hI (by rw [jh];exact h0) ct with ⟨ad,_,rfl,rfl⟩ | ⟨b,s,cap,d,bo,rfl,k2,k3,k4,k5⟩
       ·simp at h1
       ·exact ⟨b,s,cap,d,bo,rfl,fun _=>k2 (by omega)⟩) ct (by rw [aS,jh];omega) (by have:=oI S2 (hA.mono fun i hi=>.tail _ hi);rwa [jh] at this) h2
      have e2:put (l0.flatMap (aB t)) 0 (l.flatMap (aB t))=(cat l (dr (len l) l0)).flatMap (aB t):=by
       rw [eM,oR]
       unfold put
       rw [aS,List.take_zero,List.nil_append,Nat.zero_add];rfl
      rw [e2] at this
      exact this
    ·cases hr
   ·cases hr
  ·cases hr
 ·cases hr
def Gc (E:Env) (T:Nat) (px:A) (h:H) (K:A→H→Fp→Option β):Option β:=match rL E T with
 | some el=>match bM E.cj el with
  | some e=>match e.t,px with
   | some t,.ts X z off n=>bif Nat.blt 0 e.size then eS h X (fun t' l0=>match c_ (.aF t') (.aF t) l0 with
    | some l0=>bif Nat.beq z e.size then gd (bx 0 n) (l_ h X t (cat (tk (α:=t.T) off l0) (cat (rep n t.bT) (dr (α:=t.T) (aN off n) l0))) (fun h1=>K .bR h1 (.wr [eB X]))) else none
    | none=>none) else none
   | _,_=>none
  | none=>none
 | none=>none
theorem BC (hE:bt P E) {T:Nat} {x:Operand} (ho:o.op = .call { callee:=.builtin .clear,args:=#[x],argTypes:=#[T] }) (hr:Gc E T (ρ x) h K=some r):Out P o ρ h K r:=by
 have hd:∀c,o.op≠.defer c:=by rw [ho];intro c e;cases e
 unfold Gc at hr
 split at hr
 ·rename_i el he
  split at hr
  ·rename_i e ht
   have hk:=hE.cj _ _ ht
   split at hr
   ·rename_i t X z off n qV hx
    have jh:=hk.ts t qV
    obtain ⟨h0,hr⟩:=ae hr
    have h0:=aQ h0
    obtain ⟨t',l0,hr,hX,cM⟩:=cJ hr
    split at hr
    ·rename_i OO hl
     obtain ⟨e',rfl⟩:=bJ hl
     cases e'
     obtain ⟨hz,hr⟩:=ae hr
     have hz:=beq_eq hz
     obtain ⟨h1,hr⟩:=ba hr
     have h1:0<n:=h1
     obtain ⟨h',k1,k2⟩:=iK hX hr
     refine ⟨_,_,_,k1,.put hd hX k2 (fun g S w a hI hv=>?_) (fun S2 hA=>cL.bc fun g0 w0 a0 L4 E9=>?_)⟩
     ·have hv:=hv x (by simp [ho,Op.operands,Call.operands])
      rw [hx] at hv
      exact hv.TM
     ·have ct:=(hA _ (bh hX (.head _))).1.trans cM
      have hle:off+n≤l0.length:=by
       have hv:=E9 x (by simp [ho,Op.operands,Call.operands])
       rw [hx,hz,←jh] at hv
       exact nj L4 (by rw [jh];exact h0) ct hv
      have:=uB (P:=P) (ρ:=ρ) (n:=n) (off:=off*e.size) (z:=e.size) ho (j5 hE he) hk.ti h0 (hk.tz t qV) (fun g w v hI hv=>by
       rw [hx,hz] at hv
       cases hv with
       | nk _ _ _ _ _ _ hn=>omega
       | ts _ _ _ _ b cap s bo hn _ _ _ d jl=>exact ⟨b,s,cap,d,bo,rfl,fun _=>jl (by omega)⟩) h1 ct (by rw [aS,jh,←Nat.add_mul];exact zW _ hle)
      have e2:put (l0.flatMap (aB t)) (off*e.size) (kL n (aB t t.bT))=(cat (tk off l0) (cat (rep n t.bT) (dr (aN off n) l0))).flatMap (aB t):=by
       rw [eM,eM,oQ,oR,pN,jh]
       unfold put
       rw [fk,bm,jh,←Nat.add_mul];rfl
      rw [e2] at this
      exact this
    ·cases hr
   ·cases hr
  ·cases hr
 ·cases hr
def Gz (mx:Bool) (px py:A) (h:H) (K:A→H→Fp→Option β):Option β:=match px,py with
 | .v (.int k m),.v (.int k' n)=>if k=k' then K (.v (.int k (bif mx then imax m n else Lz m n))) h .no else none
 | _,_=>none
theorem AM {Ts:Array TypeId} {x y:Operand} (ho:o.op = .call { callee:=.builtin .max,args:=#[x,y],argTypes:=Ts }) (hr:Gz true (ρ x) (ρ y) h K=some r):Out P o ρ h K r:=by
 unfold Gz at hr
 split at hr
 ·rename_i k m k' n hx hy
  split at hr
  ·rename_i hk;subst hk
   exact .pure hr (fun S2=>Aw ho hx hy) (by rw [ho];intro c e;cases e)
  ·cases hr
 ·cases hr
theorem AL {Ts:Array TypeId} {x y:Operand} (ho:o.op = .call { callee:=.builtin .min,args:=#[x,y],argTypes:=Ts }) (hr:Gz false (ρ x) (ρ y) h K=some r):Out P o ρ h K r:=by
 unfold Gz at hr
 split at hr
 ·rename_i k m k' n hx hy
  split at hr
  ·rename_i hk;subst hk
   exact .pure hr (fun S2=>Av ho hx hy) (by rw [ho];intro c e;cases e)
  ·cases hr
 ·cases hr
def Lm (f:FuncId) (fi ca:List A) (h:H) (K:A→H→Fp→Option β):Option β:=K (.fn f fi ca) h .no
theorem AO {f:FuncId} {fi ca:Array Operand} (ho:o.op = .makeFunc (.func f) fi ca) (hr:Lm f (fi.toList.map ρ) (ca.toList.map ρ) h K=some r):Out P o ρ h K r:=
 .pure hr (fun S2=>oi ho) (by rw [ho];intro c e;cases e)
end
end
section
open Go.RowKit
section
variable {P:Program} {E:Env} {o:Oper} {ρ:Operand→A} {S:Hp}
def uM (es:List (A×A)) (n:Nat) (v:A):List (A×A):=es.modify n fun e=>(e.1,v)
theorem wX (hE:bt P E) {T K T2:Nat} {X:Ref} {x y z:Operand} {e:bL} {es:List (A×A)} {vz:A} {n:Nat} {W8:A} (ho:o.op = .mapUpdate T x y z) (hT:P.underlying T=some (.map K T2)) (he:bM E.cj K=some e) (ht:g_ E e.d=true) {b:Bool} (hs:eL E K e.d (ρ y) (ρ y)=some b)
  (hx:ρ x = .mp X) (hm:S.ob X.id=some (.bV (.map es))) (GB:∀g v,V g (ρ z) v→V g vz v) (hr:gB (eL E K e.d (ρ y)) es 0=some (some (n,W8)))
  (Q2:∀g v q v',es[n]?=some q→V g (ρ y) v→V g q.1 v'→v'=v∧Instr.sameBits 10000 v v=true):cL P o ρ S (S.set X.id (.bV (.map (uM es n vz)))) .bR:=by
 intro g w a next Q hI hv K'
 have e1:=hx▸hv x (by simp [ho,Op.operands])
 have e2:=hv y (by simp [ho,Op.operands])
 have e3:=hv z (by simp [ho,Op.operands])
 obtain ⟨vH,s,eU,clock,h1,h2,h3,h4⟩:=e1.oy hI hm
 have hc:=iS hE w false he ht hs e2
 rcases h4.find (w:=w) hE he e2 hr with ⟨hh,_⟩ | ⟨n',p,x',hh,mn,_,hn,hf⟩
 ·cases hh
 cases hh
 obtain ⟨q,hq⟩:∃q,es[n]?=some q:=⟨_,zD hn⟩
 obtain ⟨k1,k2⟩:=Q2 g _ q _ hq e2 (h4.2 n x' q mn hq).1
 have xQ:mS g (eU.modify n fun e=>{ e with key:=a.eval y,val:=a.eval z }) (uM es n vz):=by
  refine ⟨by simp [uM,h4.1],fun m c r hy hz=>?_⟩
  unfold uM at hz
  rw [List.getElem?_modify] at hz
  rw [Array.getElem?_modify] at hy
  by_cases Wh:n=m
  ·subst Wh
   simp only [if_true,mn,hq,Option.map_some,Option.map_eq_map,zI] at hy hz
   subst hy hz
   exact ⟨by rw [←k1];exact (h4.2 n x' q mn hq).1,GB _ _ e3⟩
  ·simp only [if_neg Wh,Option.map_eq_map,Option.map_id'] at hy hz
   exact h4.2 m c r hy hz
 obtain ⟨q1,q2⟩:=hI.nY (clock':=clock) hm h2 h3 xQ
 have td:(Instr.keyThatStays (((eU[n]?).map (·.key)).getD (a.eval y)) (a.eval y)).run P w = .ok (a.eval y) w:=by
  rw [mn]
  simp only [Option.map_some,Option.getD_some,k1]
  simp [Instr.keyThatStays,k2]
 have cU:(Instr.mapUpdate T (.map (some vH)) (a.eval y) (a.eval z)).run P w = .ok () { w with heap:=w.heap.setIfInBounds vH (.map (eU.modify n fun e=>{ e with key:=a.eval y,val:=a.eval z }) clock) }:=by
  simp only [Instr.mapUpdate,Sem.run_bind,run_underlying hT,Result.andThen_ok,MapKept.run_getObj_map h3,hc,hf,td,MapKept.run_setObj_map _ h3]
 unfold Oper.wp
 simp only [execOp,ho,h1,Sem.run_bind,cU,Result.andThen_ok,Sem.run_pure]
 exact K' _ g _ (.bR _) q1 q2
end
def nJ {β:Type} (f:A→Option Bool):List (A×A)→Nat→(Option (Nat×A)→Option β)→Option β
 | [],_,K=>K none
 | (k,v)::r,i,K=>match f k with
  | some b=>br b (K (some (i,v))) (nJ f r (i+1) K)
  | none=>none
theorem kh {β:Type} {f:A→Option Bool} {r:β}:∀(es:List (A×A)) (i:Nat) (K:Option (Nat×A)→Option β),nJ f es i K=some r→∃x,K x=some r∧gB f es i=some x
 | [],i,K,h=>⟨none,h,rfl⟩
 | (k,v)::es,i,K,h=>by
  unfold nJ at h
  split at h
  ·rename_i b hb
   rcases gh h with ⟨rfl,h1⟩ | ⟨rfl,h1⟩
   ·exact ⟨_,h1,by unfold gB;rw [hb]⟩
   ·obtain ⟨x,k1,k2⟩:=kh es (i+1) K h1
    exact ⟨x,k1,by unfold gB;rw [hb];exact k2⟩
  ·cases h
def nK:(t:Ty)→t.T→t.T→Bool
 | .int _,x,y=>ak x y
 | .pair a b,x,y=>nK a x.1 y.1 && nK b x.2 y.2
 | _,_,_=>false
def zc {κ α:Type} (p:κ→Bool):List (κ×α)→Nat→Option (Nat×α)
 | [],_=>none
 | (k,v)::r,i=>bif p k then some (i,v) else zc p r (i+1)
def ET {κ α:Type} (l:List (κ×α)) (n:Nat) (v:α):List (κ×α):=l.modify n fun e=>(e.1,v)
def EV {κ α:Type} (l:List (κ×α)) (n:Nat):List (κ×α):=l.eraseIdx n
def im (E:Env) (T:Nat) (k:IntKind):Bool:=match bM E.cj T with
 | some ⟨.int k',1,_,_,_,_,_⟩=>if k'=k then true else false
 | _=>false
def bD (E:Env):List Field→Nat→Ty→Bool
 | [fd],i,.int k=>Nat.beq fd.offset i && im E fd.type k
 | fd::fs,i,.pair (.int k) t=>Nat.beq fd.offset i && im E fd.type k && bD E fs (i+1) t
 | _,_,_=>false
def xo (E:Env) (K:Nat) (e:bL) (ka:Bool) (t:Ty):Bool:=match e.d with
 | .int k=>!ka && (match t with
  | .int k'=>if k'=k then true else false
  | _=>false)
 | .struct fs=>ka && E.eqs.any (Nat.beq K) && bD E fs.toList 0 t
 | _=>false
theorem kQ {E:Env} {T:Nat} {k:IntKind} (h:im E T k=true):∃e,bM E.cj T=some e∧e.d = .int k∧e.size=1:=by
 unfold im at h
 split at h
 ·rename_i k' _ _ _ _ _ ht
  split at h
  ·rename_i hk;subst hk;exact ⟨_,ht,rfl,rfl⟩
  ·cases h
 ·cases h
theorem tr {E:Env} {T:Nat} {k:IntKind} {m n:Int} (h:im E T k=true) (f:Nat):pA E (f+1) T [.v (.int k m)] [.v (.int k n)]=some (ak m n):=by
 obtain ⟨e,h1,h2,_⟩:=kQ h
 unfold pA
 rw [h1]
 simp only [h2,if_true]
theorem sV {E:Env} (f:Nat):∀(fs:List Field) (i:Nat) (t:Ty),bD E fs i t=true→∀(p q:List A) (x y:t.T),p.length=i→q.length=i→Bu E (pA E (f+1)) fs (p++aB t x) (q++aB t y)=some (nK t x y)
 | [],_,_,h=>by simp [bD] at h
 | [fd],i,.int k,h=>fun p q x y hp hq=>by
  simp only [bD,zC] at h
  have h1:=beq_eq h.1
  obtain ⟨e,e1,e2,e3⟩:=kQ h.2
  unfold Bu
  rw [e1]
  simp only [e3,h1]
  rw [←hp,List.drop_left,hp,←hq,List.drop_left]
  have:=tr (m:=x) (n:=y) h.2 f
  simp only [aB,List.take_succ_cons,List.take_zero,this,Bu]
  simp [nK,lx]
 | fd::fs,i,.pair (.int k) t,h=>fun p q x y hp hq=>by
  have h:(Nat.beq fd.offset i && im E fd.type k && bD E fs (i+1) t)=true:=by
   cases fs<;>exact h
  simp only [zC] at h
  have h1:=beq_eq h.1.1
  obtain ⟨e,e1,e2,e3⟩:=kQ h.1.2
  unfold Bu
  rw [e1]
  simp only [e3,h1]
  have ih:=sV f fs (i+1) t h.2 (p++[A.v (.int k x.1)]) (q++[A.v (.int k y.1)]) x.2 y.2 (by simp [hp]) (by simp [hq])
  have ex:∀(p:List A) (x:(Ty.pair (.int k) t).T),p++aB (.pair (.int k) t) x=p++[A.v (.int k x.1)]++aB t x.2:=fun p x=>by
   show p++([A.v (.int k x.1)]++aB t x.2)=_
   rw [List.append_assoc]
  rw [ex,ex,ih]
  have Rf:((p++[A.v (.int k x.1)]++aB t x.2).drop i).take 1=[A.v (.int k x.1)]:=by rw [←hp,List.append_assoc,List.drop_left];rfl
  have X0:((q++[A.v (.int k y.1)]++aB t y.2).drop i).take 1=[A.v (.int k y.1)]:=by rw [←hq,List.append_assoc,List.drop_left];rfl
  rw [Rf,X0]
  exact congrArg (fun z:Option Bool=>match z,some (nK t x.2 y.2) with
   | some a,some b=>some (lx a b)
   | _,_=>none) (tr (m:=x.1) (n:=y.1) h.1.2 f)
 | [_],_,.bool,h=>by simp [bD] at h
 | _::_::_,_,.bool,h=>by simp [bD] at h
 | _::_::_,_,.int _,h=>by simp [bD] at h
 | _::_,_,.unit,h=>by simp [bD] at h
 | _::_,_,.pair .bool _,h=>by simp [bD] at h
 | _::_,_,.pair .unit _,h=>by simp [bD] at h
 | _::_,_,.pair (.pair _ _) _,h=>by simp [bD] at h
 | _::_,_,.pair (.arr _ _) _,h=>by simp [bD] at h
 | _::_,_,.pair (.aF _) _,h=>by simp [bD] at h
 | _::_,_,.pair (.ptr _) _,h=>by simp [bD] at h
 | _::_,_,.pair (.b6 _) _,h=>by simp [bD] at h
 | _::_,_,.pair (.fj _ _) _,h=>by simp [bD] at h
 | _::_,_,.pair (.kB _ _) _,h=>by simp [bD] at h
 | _::_,_,.pair (.mp _) _,h=>by simp [bD] at h
 | _::_,_,.arr _ _,h=>by simp [bD] at h
 | _::_,_,.aF _,h=>by simp [bD] at h
 | _::_,_,.ptr _,h=>by simp [bD] at h
 | _::_,_,.b6 _,h=>by simp [bD] at h
 | _::_,_,.fj _ _,h=>by simp [bD] at h
 | _::_,_,.kB _ _,h=>by simp [bD] at h
 | _::_,_,.mp _,h=>by simp [bD] at h
theorem oA {E:Env} {K:Nat} {e:bL} {ka:Bool} {t:Ty} (he:bM E.cj K=some e) (h:xo E K e ka t=true) (x y:t.T):eL E K e.d (bq ka t x) (bq ka t y)=some (nK t x y):=by
 unfold xo at h
 split at h
 ·rename_i k hd
  cases ka with
  | true=>simp at h
  | false=>
   simp only [Bool.not_false,Bool.true_and] at h
   split at h
   ·split at h
    ·rename_i k' hk
     subst hk
     unfold eL bq
     simp only [hd,cond_false,aB,if_true]
     rfl
    ·cases h
   ·cases h
 ·rename_i fs hd
  simp only [zC] at h
  obtain ⟨⟨rfl,hq⟩,hs⟩:=h
  have h1:=sV 0 fs.toList 0 t hs [] [] x y rfl rfl
  simp only [List.nil_append] at h1
  unfold eL bq
  simp only [hd,cond_true,ei,Bool.and_self,A.cells]
  show pA E 2 K (aB t x) (aB t y)=some (nK t x y)
  unfold pA
  rw [he]
  simp only [hd,hq,cond_true]
  exact h1
 ·cases h
theorem fU {E:Env} {K:Nat} {e:bL} {ka va:Bool} {t tv:Ty} (he:bM E.cj K=some e) (h:xo E K e ka t=true) (x:t.T):∀(es:List (t.T×tv.T)) (i:Nat),
  gB (eL E K e.d (bq ka t x)) (es.map fun e=>(bq ka t e.1,bq va tv e.2)) i=some ((zc (nK t x) es i).map fun p=>(p.1,bq va tv p.2))
 | [],i=>rfl
 | (k,v)::es,i=>by
  rw [List.map_cons]
  unfold gB zc
  simp only [oA he h x k]
  cases nK t x k with
  | true=>rfl
  | false=>exact fU he h x es (i+1)
theorem oH {a b:Int} (h:ak a b=true):a=b:=by unfold ak at h;exact of_decide_eq_true h
theorem nB {E:Env}:∀(fs:List Field) (i:Nat) (t:Ty),bD E fs i t=true→∀x y:t.T,nK t x y=true→x=y
 | [],_,_,h=>by simp [bD] at h
 | [_],_,.int _,_=>fun _ _ e=>oH e
 | fd::fs,i,.pair (.int k) t,h=>fun x y e=>by
  have h:(Nat.beq fd.offset i && im E fd.type k && bD E fs (i+1) t)=true:=by
   cases fs<;>exact h
  simp only [zC] at h
  have e:(ak x.1 y.1 && nK t x.2 y.2)=true:=e
  simp only [zC] at e
  exact Prod.ext (oH e.1) (nB fs (i+1) t h.2 _ _ e.2)
 | [_],_,.bool,h=>by simp [bD] at h
 | _::_::_,_,.bool,h=>by simp [bD] at h
 | _::_::_,_,.int _,h=>by simp [bD] at h
 | _::_,_,.unit,h=>by simp [bD] at h
 | _::_,_,.pair .bool _,h=>by simp [bD] at h
 | _::_,_,.pair .unit _,h=>by simp [bD] at h
 | _::_,_,.pair (.pair _ _) _,h=>by simp [bD] at h
 | _::_,_,.pair (.arr _ _) _,h=>by simp [bD] at h
 | _::_,_,.pair (.aF _) _,h=>by simp [bD] at h
 | _::_,_,.pair (.ptr _) _,h=>by simp [bD] at h
 | _::_,_,.pair (.b6 _) _,h=>by simp [bD] at h
 | _::_,_,.pair (.fj _ _) _,h=>by simp [bD] at h
 | _::_,_,.pair (.kB _ _) _,h=>by simp [bD] at h
 | _::_,_,.pair (.mp _) _,h=>by simp [bD] at h
 | _::_,_,.arr _ _,h=>by simp [bD] at h
 | _::_,_,.aF _,h=>by simp [bD] at h
 | _::_,_,.ptr _,h=>by simp [bD] at h
 | _::_,_,.b6 _,h=>by simp [bD] at h
 | _::_,_,.fj _ _,h=>by simp [bD] at h
 | _::_,_,.kB _ _,h=>by simp [bD] at h
 | _::_,_,.mp _,h=>by simp [bD] at h
theorem rq (n:Nat) (k:IntKind) (m:Int):Instr.sameBits n (.int k m) (.int k m)=true:=by cases n<;>simp [Instr.sameBits]
theorem nD {E:Env}:∀(fs:List Field) (i:Nat) (t:Ty),bD E fs i t=true→∀(x:t.T) (g:G) (vs:List Value),Vs g (aB t x) vs→(∀g' zt,Vs g' (aB t x) zt→zt=vs)∧∀n,((vs.zip vs).all fun (a,b)=>Instr.sameBits n a b)=true
 | [],_,_,h=>by simp [bD] at h
 | [_],_,.int k,_=>fun x g vs hv=>by
  obtain ⟨v,rfl,h1,_⟩:=Vs.kO (show Vs g [.v (.int k x)] vs from hv)
  cases h1
  refine ⟨fun g' zt qU=>?_,fun n=>?_⟩
  ·obtain ⟨v',rfl,Rv,_⟩:=Vs.kO (show Vs g' [.v (.int k x)] zt from qU)
   cases Rv;rfl
  ·exact (Bool.and_true _).trans (rq n k x)
 | fd::fs,i,.pair (.int k) t,h=>fun x g vs hv=>by
  have h:(Nat.beq fd.offset i && im E fd.type k && bD E fs (i+1) t)=true:=by
   cases fs<;>exact h
  simp only [zC] at h
  obtain ⟨v1,v2⟩:=Vs.split (show Vs g (aB (.int k) x.1++aB t x.2) vs from hv)
  obtain ⟨r1,r2⟩:=nD fs (i+1) t h.2 x.2 g _ v2
  obtain ⟨v,e1,h1,_⟩:=Vs.kO (show Vs g [.v (.int k x.1)] _ from v1)
  cases h1
  have tc:vs=Value.int k x.1::vs.drop (aB (.int k) x.1).length:=by
   have:=zP (aB (.int k) x.1).length vs
   rw [e1] at this
   exact this.symm
  refine ⟨fun g' zt qU=>?_,fun n=>?_⟩
  ·obtain ⟨WK,WJ⟩:=Vs.split (show Vs g' (aB (.int k) x.1++aB t x.2) zt from qU)
   obtain ⟨v',Yu,Rv,_⟩:=Vs.kO (show Vs g' [.v (.int k x.1)] _ from WK)
   cases Rv
   have QE:zt=Value.int k x.1::zt.drop (aB (.int k) x.1).length:=by
    have:=zP (aB (.int k) x.1).length zt
    rw [Yu] at this
    exact this.symm
   rw [QE,tc,r1 _ _ WJ]
  ·rw [tc,List.zip_cons_cons,List.all_cons,r2 n]
   exact (Bool.and_true _).trans (rq n k x.1)
 | [_],_,.bool,h=>by simp [bD] at h
 | _::_::_,_,.bool,h=>by simp [bD] at h
 | _::_::_,_,.int _,h=>by simp [bD] at h
 | _::_,_,.unit,h=>by simp [bD] at h
 | _::_,_,.pair .bool _,h=>by simp [bD] at h
 | _::_,_,.pair .unit _,h=>by simp [bD] at h
 | _::_,_,.pair (.pair _ _) _,h=>by simp [bD] at h
 | _::_,_,.pair (.arr _ _) _,h=>by simp [bD] at h
 | _::_,_,.pair (.aF _) _,h=>by simp [bD] at h
 | _::_,_,.pair (.ptr _) _,h=>by simp [bD] at h
 | _::_,_,.pair (.b6 _) _,h=>by simp [bD] at h
 | _::_,_,.pair (.fj _ _) _,h=>by simp [bD] at h
 | _::_,_,.pair (.kB _ _) _,h=>by simp [bD] at h
 | _::_,_,.pair (.mp _) _,h=>by simp [bD] at h
 | _::_,_,.arr _ _,h=>by simp [bD] at h
 | _::_,_,.aF _,h=>by simp [bD] at h
 | _::_,_,.ptr _,h=>by simp [bD] at h
 | _::_,_,.b6 _,h=>by simp [bD] at h
 | _::_,_,.fj _ _,h=>by simp [bD] at h
 | _::_,_,.kB _ _,h=>by simp [bD] at h
 | _::_,_,.mp _,h=>by simp [bD] at h
theorem xn {E:Env} {K:Nat} {e:bL} {ka:Bool} {t:Ty} (h:xo E K e ka t=true) {x y:t.T} (V_:nK t x y=true) {g:G} {v v':Value} (h1:V g (bq ka t x) v) (h2:V g (bq ka t y) v'):v'=v∧Instr.sameBits 10000 v v=true:=by
 unfold xo at h
 split at h
 ·rename_i k hd
  cases ka with
  | true=>simp at h
  | false=>
   simp only [Bool.not_false,Bool.true_and] at h
   split at h
   ·split at h
    ·have:=oH V_
     subst this
     cases h1;cases h2
     exact ⟨rfl,rq _ _ _⟩
    ·cases h
   ·cases h
 ·rename_i fs hd
  simp only [zC] at h
  obtain ⟨⟨rfl,hq⟩,hs⟩:=h
  have:=nB _ _ _ hs _ _ V_
  subst this
  have c1:=h1.cells rfl
  have c2:=h2.cells rfl
  obtain ⟨us,rfl⟩:=h1.qJ rfl
  obtain ⟨WL,rfl⟩:=h2.qJ rfl
  obtain ⟨r1,r2⟩:=nD _ _ _ hs x g _ c1
  have e:=r1 _ _ c2
  have e:WL=us:=Array.ext' e
  subst e
  refine ⟨rfl,?_⟩
  have:=r2 9999
  simp only [Value.cells] at this
  rw [show (10000:Nat)=9999+1 from rfl,Instr.sameBits]
  simp only [this,Bool.and_true,beq_self_eq_true]
 ·cases h
end
section
open Go.RowKit
section
variable {P:Program} {E:Env} {o:Oper} {ρ:Operand→A} {h:H} {β:Type} {K:A→H→Fp→Option β} {r:β}
def rM:A→Bool
 | .agg _=>true
 | _=>false
theorem V.VR {g:G} {p:A} {v:Value} {cs:List A} (hv:V g p v) (ha:rM p=false) (hc:p.cells=some cs):v.oneCell'=true:=by
 cases hv with
 | v x=>
  unfold A.cells at hc
  cases hx:v.oneCell' with
  | true=>rfl
  | false=>simp only [hx,cond_false] at hc;cases hc
 | agg=>cases ha
 | eJ=>cases hc
 | un=>cases hc
 | bR=>cases hc
 | op r o v h0 h1=>exact V.uF (.op r o v h0 h1)
 | os r z o v h0 h1=>exact V.uF (.os r z o v h0 h1)
 | om r o v h0 h1=>exact V.uF (.om r o v h0 h1)
 | tl t f l v hd=>exact hd.one
 | _=>rfl
def gu (a:Bool) (t:Ty) (p:A):Option t.T:=bif a then (match p with
 | .agg cs=>kC t cs
 | _=>none) else bif rM p then none else (match p.cells with
 | some cs=>bif Nat.beq t.size 1 then kC t cs else none
 | none=>none)
theorem fl {a:Bool} {t:Ty} {p:A} {x:t.T} (hx:gu a t p=some x) {g:G} {v:Value} (hv:V g p v):V g (bq a t x) v:=by
 unfold gu at hx
 unfold bq
 cases a with
 | true=>
  simp only [cond_true] at hx ⊢
  split at hx
  ·rename_i cs
   obtain ⟨us,rfl⟩:=hv.qJ rfl
   exact Vs.agg ((eQ (g:=g) t cs x hx).2 _ (hv.cells rfl))
  ·cases hx
 | false=>
  simp only [cond_false] at hx ⊢
  cases ha:rM p with
  | true=>rw [ha] at hx;cases hx
  | false=>
   rw [ha] at hx;simp only [cond_false] at hx
   split at hx
   ·rename_i cs hc
    obtain ⟨h1,hx⟩:=ae hx
    have h1:=beq_eq h1
    have uS:=(eQ (g:=g) t cs x hx).2 _ (hv.cells hc)
    rw [nz (hv.VR ha hc)] at uS
    have hl:(aB t x).length=1:=by rw [bm];exact h1
    match he:aB t x,hl with
    | [c],_=>
     rw [he] at uS
     exact (uS.2 0 c v rfl rfl).1
   ·cases hx
theorem cL.conv {S S':Hp} {ρ':Operand→A} {pv:A} (hc:∀x∈o.op.operands,∀g v,V g (ρ x) v→V g (ρ' x) v) (k:cL P o ρ' S S' pv):cL P o ρ S S' pv:=
 fun g w a next Q hI hv K=>k g w a next Q hI (fun x hx=>hc x hx g _ (hv x hx)) K
def told (ρ:Operand→A) (y:Operand) (p:A):Operand→A:=fun z=>open Classical in if z=y then p else ρ z
theorem dk {ρ:Operand→A} {y:Operand} {p:A}:told ρ y p y=p:=if_pos rfl
theorem jN {ρ:Operand→A} {y z:Operand} {p:A} (h:z≠y):told ρ y p z=ρ z:=if_neg h
theorem kG {ρ:Operand→A} {y:Operand} {p:A} (h:∀g v,V g (ρ y) v→V g p v):∀(x:Operand) (g:G) (v:Value),V g (ρ x) v→V g (told ρ y p x) v:=fun x g v hv=>by
 by_cases hx:x=y
 ·subst hx;rw [dk];exact h g v hv
 ·rw [jN hx];exact hv
def Lj (h:H) (r j:Nat) (k:(ka:Bool)→(tk:Ty)→(va:Bool)→(tv:Ty)→List (tk.T×tv.T)→Option β):Option β:=match a7 h.rg r with
 | some ⟨_,.map ka tk va tv,c⟩=>bif Nat.blt r 64 then k ka tk va tv (nth (α:=List (tk.T×tv.T)) [] c j) else none
 | _=>none
def fN (ka:Bool) (tk:Ty) (va:Bool) (tv:Ty) (es:List (tk.T×tv.T)):List (A×A):=es.map fun e=>(bq ka tk e.1,bq va tv e.2)
theorem ud {ka va:Bool} {tk tv:Ty} {c:List (List (tk.T×tv.T))} {j:Nat} (h:j<c.length):cn (.map ka tk va tv) c j=some (.bV (.map (fN ka tk va tv (nth [] c j)))):=by
 show (match gy (α:=List (tk.T×tv.T)) c j with | some es=>some (Ob.bV (.map (fN ka tk va tv es))) | none=>none)=_
 have e:gy c j=some (nth [] c j):=by simp [gy,nth,zA,zD h]
 rw [e]
theorem rD {q j:Nat} {k:(ka:Bool)→(tk:Ty)→(va:Bool)→(tv:Ty)→List (tk.T×tv.T)→Option β} (hr:Lj h q j k=some r):∃(ka:Bool) (tk:Ty) (va:Bool) (tv:Ty) (es:List (tk.T×tv.T)),k ka tk va tv es=some r∧q<64∧(∃x:Rg,a7 h.rg q=some x∧∃c:List (List (tk.T×tv.T)),x=⟨x.r,.map ka tk va tv,c⟩∧es=nth [] c j) ∧
  ∀g S (w:World) b s,Inv g S w→S.ob (cV q j)=(hp h).ob (cV q j)→(S.fr (cV q j)↔(hp h).fr (cV q j))→g.bc (cV q j)=some (some b,s)→S.ob (cV q j)=some (.bV (.map (fN ka tk va tv es))):=by
 unfold Lj at hr
 split at hr
 ·rename_i rr ka tk va tv c hf
  obtain ⟨h1,h2⟩:=ae hr
  have h3:q<64:=aQ h1
  refine ⟨ka,tk,va,tv,_,h2,h3,⟨_,hf,c,rfl,rfl⟩,fun g S w b s hI e e2 hg=>?_⟩
  have du:j<List.length (α:=List (tk.T×tv.T)) c:=by
   rcases Nat.lt_or_ge j (List.length (α:=List (tk.T×tv.T)) c) with du | pr
   ·exact du
   ·have:S.fr (cV q j):=e2.2 (by rw [dq.2,dh h3 hf];exact pr)
    have:=hI.fresh _ this
    rw [this] at hg;cases hg
  rw [e,dq.1,gm h3 hf]
  exact ud du
 ·cases hr
def uO (ok:Bool) (z:A) (res:Option (Nat×A)) (h:H) (T:Fp) (K:A→H→Fp→Option β):Option β:=bif ok then K (.eJ [tW z res,.v (.bool res.isSome)]) h T else vZ (tW z res) (fun v=>K v h T)
theorem sU {ok:Bool} {z:A} {res:Option (Nat×A)} {T:List Nat} (hd:∀c,o.op≠.defer c) (hr:uO ok z res h (.rd T) K=some r) (k:∀S2,Agree (.rd T) (hp h) S2→cL P o ρ S2 S2 (bif ok then .eJ [tW z res,.v (.bool res.isSome)] else tW z res)):Out P o ρ h K r:=by
 unfold uO at hr
 cases ok with
 | true=>exact .read T hr k hd
 | false=>exact .sp hr (.read _ k hd)
def EX (E:Env) (T:Nat) (ok:Bool) (px py:A) (h:H) (K:A→H→Fp→Option β):Option β:=match bM E.cj T with
 | some ⟨.map KT VT,_,_,_,_,_,_⟩=>match bM E.cj KT,bM E.cj VT with
  | some e,some e2=>match vN e2.zero with
   | some z=>match px with
    | .mp (.loc q)=>match h.t.get q with
     | some (.bV (.map es))=>match eL E KT e.d py py with
      | some _=>bif g_ E e.d && Nat.blt q 16777216 then nJ (eL E KT e.d py) es 0 (fun res=>uO ok z res h (.rd [b8 q]) K) else none
      | none=>none
     | _=>none
    | .mp (.cE q j)=>Lj h q j (fun ka tk va tv es=>bif xo E KT e ka tk && g_ E e.d then (match gu ka tk py with
     | some x=>opt (zc (nK tk x) es 0) (uO ok z none h (.rd [d_ q]) K) (fun p=>uO ok z (some (p.1,bq va tv p.2)) h (.rd [d_ q]) K)
     | none=>none) else none)
    | _=>none
   | none=>none
  | _,_=>none
 | _=>none
theorem AP (hE:bt P E) {T:Nat} {x y:Operand} {ok:Bool} (ho:o.op = .lookup T x y ok) (hr:EX E T ok (ρ x) (ρ y) h K=some r):Out P o ρ h K r:=by
 have hd:∀c,o.op≠.defer c:=by rw [ho];intro c e;cases e
 unfold EX at hr
 split at hr
 ·rename_i KT VT _ _ _ _ _ _ ht
  have hT:=(hE.cj _ _ ht).u
  split at hr
  ·rename_i e e2 he LW
   obtain ⟨i,t1,t2,t3,t4,t5,t6⟩:=(hE.cj _ _ LW).ti
   split at hr
   ·rename_i z hz
    have V8:=vM hz t6
    split at hr
    ·rename_i q hx
     split at hr
     ·rename_i es hg
      split at hr
      ·rename_i b hs
       obtain ⟨h1,hr⟩:=ae hr
       simp only [zC] at h1
       have hq:=aQ h1.2
       obtain ⟨res,k1,k2⟩:=kh _ _ _ hr
       have cM:(hp h).ob q=some (.bV (.map es)):=by rw [fw hq];unfold cY;rw [hg];rfl
       exact sU hd k1 (fun S2 hA=>mc hE ho hT he LW h1.1 hs hx ((hA q (az hq (.head _))).1.trans cM) k2 V8)
      ·cases hr
     ·cases hr
    ·rename_i q j hx
     obtain ⟨ka,tk,va,tv,es,hr,hq,_,cM⟩:=rD hr
     obtain ⟨h1,hr⟩:=ae hr
     simp only [zC] at h1
     split at hr
     ·rename_i kx mw
      have jk:x≠y:=fun e=>by
       rw [←e,hx] at mw
       unfold gu at mw
       cases ka with
       | true=>cases mw
       | false=>
        simp only [cond_false,rM,A.cells] at mw
        obtain ⟨_,mw⟩:=ae mw
        have hs:=h1.1
        unfold xo at hs
        split at hs
        ·simp only [Bool.not_false,Bool.true_and] at hs
         split at hs
         ·simp [kC] at mw
         ·cases hs
        ·simp at hs
        ·cases hs
      have main:∀res,zc (nK tk kx) es 0=res→uO ok z (res.map fun p=>(p.1,bq va tv p.2)) h (.rd [d_ q]) K=some r→Out P o ρ h K r:=fun res hm hr=>by
       refine sU hd hr (fun S2 hA=>cL.bc fun g w a hI hv=>?_)
       have pn:=hv x (by simp [ho,Op.operands])
       rw [hx] at pn
       have ha:=hA (cV q j) (bz (r:=q) (j:=j) hq (.head _))
       have uU:∃b s,g.bc (cV q j)=some (some b,s):=by
        generalize a.eval x=vx at pn
        cases pn with
        | mp _ b s bo=>exact ⟨b,s,bo⟩
       obtain ⟨b,s,bo⟩:=uU
       have ct:=cM g S2 w b s hI ha.1 ha.2 bo
       refine cL.conv (ρ':=told ρ y (bq ka tk kx)) (fun x _ g v hv=>kG (fun g v hv=>fl mw hv) x g v hv) ?_
       have hf:=fU (va:=va) (tv:=tv) he h1.1 kx es 0
       rw [hm] at hf
       exact mc (X:=.cE q j) (es:=fN ka tk va tv es) hE ho hT he LW h1.2 (b:=nK tk kx kx) (by rw [dk];exact oA he h1.1 kx kx) (by rw [jN jk,hx]) ct (by rw [dk];exact hf) V8
      rcases eg hr with ⟨e,hr⟩ | ⟨p,e,hr⟩
      ·exact main none e hr
      ·exact main (some p) e hr
     ·cases hr
    ·cases hr
   ·cases hr
  ·cases hr
 ·cases hr
def Ll (h:H) (K:A→H→Fp→Option β):Option β:=iY (.bV (.map [])) h (fun q h'=>K (.mp (.loc q)) h' (.wr [b8 q]))
theorem AN {T:Nat} (ho:o.op = .makeMap T none) (hr:Ll h K=some r):Out P o ρ h K r:=by
 have hd:∀c,o.op≠.defer c:=by rw [ho];intro c e;cases e
 obtain ⟨h',k1,hq,hf,hh⟩:=db hr
 exact ⟨_,_,_,k1,.of _ hh rfl (fun u hu=>by rcases zF.1 hu with rfl;exact az (o:=h.aL) hq (.head _)) (fun S2 hA=>pY ho ((hA _ (az hq (.head _))).2.2 hf)) hd⟩
def ui (h:H) (q j:Nat) (ka:Bool) (tk:Ty) (va:Bool) (tv:Ty) (es:List (tk.T×tv.T)) (k:H→Option β):Option β:=bif qe h (d_ q) then none else match a7 h.rg q with
 | some ⟨_,.map Qq OC Pn OB,c⟩=>if ka=Qq∧va=Pn then (match c_ (.aF (.pair tk tv)) (.aF (.pair OC OB)) es with
  | some vG=>k { h with rg:=eR h.rg q (.map Qq OC Pn OB) (upd (α:=List (OC.T×OB.T)) c j vG) }
  | none=>none) else none
 | _=>none
theorem l3 {ka va:Bool} {tk tv:Ty} {c:List (List (tk.T×tv.T))} {j:Nat} {es:List (tk.T×tv.T)} (hj:j<c.length) (i:Nat):cn (.map ka tk va tv) (upd c j es) i=if i=j then some (.bV (.map (fN ka tk va tv es))) else cn (.map ka tk va tv) c i:=by
 show (match gy (α:=List (tk.T×tv.T)) (upd c j es) i with | some es=>some (Ob.bV (.map (fN ka tk va tv es))) | none=>none)=if i=j then some (.bV (.map (fN ka tk va tv es))) else (match gy (α:=List (tk.T×tv.T)) c i with | some es=>some (Ob.bV (.map (fN ka tk va tv es))) | none=>none)
 rw [kc]
 by_cases h:i=j
 ·rw [if_pos ⟨h,hj⟩,if_pos h]
 ·rw [if_neg (fun k=>h k.1),if_neg h]
theorem oc {q j:Nat} {ka:Bool} {tk:Ty} {va:Bool} {tv:Ty} {es:List (tk.T×tv.T)} {k:H→Option β} (h3:q<64) (hr:ui h q j ka tk va tv es k=some r):∃h',k h'=some r∧qN h h' (.cE q j) (.bV (.map (fN ka tk va tv es))):=by
 obtain ⟨_,hr⟩:=eP hr
 split at hr
 ·rename_i rr Qq OC Pn OB c hf
  split at hr
  ·rename_i e
   obtain ⟨rfl,rfl⟩:=e
   split at hr
   rotate_left
   ·cases hr
   rename_i vG lG
   obtain ⟨e,lG⟩:=bJ lG
   cases e
   obtain rfl:es=vG:=lG
   refine ⟨_,hr,fun i hi=>?_,fun jH=>?_⟩
   ·have hn:=lP h3 hi
    have:=gO (h:=h) (k:=.map ka tk va tv) (c:=upd (α:=List (tk.T×tv.T)) c j es) hf i
    rw [if_neg hn,if_neg hn] at this
    exact this
   ·have du:j<List.length (α:=List (tk.T×tv.T)) c:=by
     rcases Nat.lt_or_ge j (List.length (α:=List (tk.T×tv.T)) c) with du | pr
     ·exact du
     ·exact absurd (by rw [show (Ref.cE q j).id=cV q j from rfl,dq.2,dh h3 hf];exact pr) jH
    exact mu (j:=j) (u:=.set (cV q j) _) h3 hf (lA (α:=List (tk.T×tv.T)) c j _) (fun i hi=>by rw [l3 (c:=c) du,if_neg hi]) rfl (by rw [l3 (c:=c) du,if_pos rfl];exact rn) rfl
  ·cases hr
 ·cases hr
def sQ (E:Env) (T:Nat) (ins ne:Bool) (px py pz:A) (h:H) (K:A→H→Fp→Option β):Option β:=match bM E.cj T with
 | some ⟨.map KT _,_,_,_,_,_,_⟩=>match bM E.cj KT with
  | some e=>match px with
   | .mp (.loc q)=>match h.t.get q with
    | some (.bV (.map es))=>match eL E KT e.d py py with
     | some _=>bif g_ E e.d && Nat.blt q 16777216 && !(qe h (b8 q)) then nJ (eL E KT e.d py) es 0 (fun res=>match res with
      | none=>cO h.t q (some (.bV (.map (es++[(py,pz)])))) (fun t1=>K .bR { h with t:=t1 } (.wr [b8 q]))
      | some _=>none) else none
     | none=>none
    | _=>none
   | .mp (.cE q j)=>Lj h q j (fun ka tk va tv es=>bif xo E KT e ka tk && g_ E e.d && ne then (match gu ka tk py,gu va tv pz with
    | some x,some y=>opt (zc (nK tk x) es 0) (ui h q j ka tk va tv (cat es [(x,y)]) (fun h'=>K .bR h' (.wr [d_ q])))
     (fun p=>bif ins then none else ui h q j ka tk va tv (ET es p.1 y) (fun h'=>K .bR h' (.wr [d_ q])))
    | _,_=>none) else none)
   | _=>none
  | none=>none
 | _=>none
theorem qc {κ α:Type} {p:κ→Bool}:∀(l:List (κ×α)) (i n:Nat) (v:α),zc p l i=some (n,v)→∃m k,n=i+m∧l[m]?=some (k,v)∧p k=true
 | [],_,_,_,h=>by cases h
 | (k,v)::l,i,n,v',h=>by
  unfold zc at h
  cases hk:p k with
  | true=>rw [hk] at h;cases h;exact ⟨0,k,rfl,rfl,hk⟩
  | false=>
   rw [hk] at h
   obtain ⟨m,k',h1,h2,h3⟩:=qc l (i+1) n v' h
   exact ⟨m+1,k',by omega,h2,h3⟩
theorem V.AK {g:G} {X:Ref} {v:Value} (hv:V g (.mp X) v):∃b s,g.bc X.id=some (some b,s):=by
 cases hv with
 | mp _ b s bo=>exact ⟨b,s,bo⟩
theorem pS {E:Env} {K:Nat} {e:bL} {ka:Bool} {tk:Ty} {X:Ref} {kx:tk.T} (hs:xo E K e ka tk=true) (mw:gu ka tk (.mp X)=some kx):False:=by
 unfold gu at mw
 cases ka with
 | true=>cases mw
 | false=>
  simp only [cond_false,rM,A.cells] at mw
  obtain ⟨_,mw⟩:=ae mw
  unfold xo at hs
  split at hs
  ·simp only [Bool.not_false,Bool.true_and] at hs
   split at hs
   ·simp [kC] at mw
   ·cases hs
  ·simp at hs
  ·cases hs
theorem qa (hE:bt P E) {T:Nat} {x y z:Operand} {ins ne:Bool} (Xl:ne=true→z≠y) (ho:(ins=false∧o.op = .mapUpdate T x y z)∨(ins=true∧o.op = .insert T x y z)) (hr:sQ E T ins ne (ρ x) (ρ y) (ρ z) h K=some r):Out P o ρ h K r:=by
 have hd:∀c,o.op≠.defer c:=by rcases ho with ⟨_,ho⟩ | ⟨_,ho⟩<;>(rw [ho];intro c e;cases e)
 have Fi:o.op = .mapUpdate T x y z∨o.op = .insert T x y z:=by rcases ho with ⟨_,ho⟩ | ⟨_,ho⟩<;>simp [ho]
 have lu:x∈o.op.operands:=by rcases Fi with ho | ho<;>simp [ho,Op.operands]
 unfold sQ at hr
 split at hr
 ·rename_i KT VT _ _ _ _ _ _ ht
  have hT:=(hE.cj _ _ ht).u
  split at hr
  ·rename_i e he
   split at hr
   ·rename_i q hx
    split at hr
    ·rename_i es hg
     split at hr
     ·rename_i b hs
      obtain ⟨h1,hr⟩:=ae hr
      simp only [zC] at h1
      have hq:=aQ h1.1.2
      obtain ⟨res,k1,k2⟩:=kh _ _ _ hr
      have cM:(hp h).ob q=some (.bV (.map es)):=by rw [fw hq];unfold cY;rw [hg];rfl
      split at k1
      ·obtain ⟨_,t1,k3,k4⟩:=aY k1
       exact ⟨_,_,_,k3,.of [.set q (.bV (.map (es++[(ρ y,ρ z)])))] (kT (x:=.bV (.map (es++[(ρ y,ρ z)]))) hq k4) rfl (fun u hu=>by rcases zF.1 hu with rfl;exact az (o:=q) hq (.head _))
        (fun S2 hA=>sN hE Fi hT he h1.1.1 hs hx ((hA q (az hq (.head _))).1.trans cM) (fun g v hv=>hv) (fun g v hv=>hv) k2) hd⟩
      ·cases k1
     ·cases hr
    ·cases hr
   ·rename_i q j hx
    obtain ⟨ka,tk,va,tv,es,hr,hq,_,cM⟩:=rD hr
    obtain ⟨h1,hr⟩:=ae hr
    simp only [zC] at h1
    split at hr
    ·rename_i kx vy mw QC
     have jk:x≠y:=fun e=>by rw [←e,hx] at mw;exact pS h1.1.1 mw
     have hX:uG (.cE q j)=true:=by show Nat.blt q 64=true;simpa using hq
     have uk:∀(g:G) (S:Hp) (w:World) (a:Act),Inv g S w→(∀x∈o.op.operands,V g (ρ x) (a.eval x))→g.bc (Ref.cE q j).id≠none:=fun g S w a hI hv=>by
      have pn:=hv x lu
      rw [hx] at pn
      obtain ⟨b,s,bo⟩:=pn.AK
      rw [bo];intro h;cases h
     have here:∀S2,Agree (.wr (eB (.cE q j)::[])) (hp h) S2→∀{S':Hp} {pv:A},(S2.ob (cV q j)=some (.bV (.map (fN ka tk va tv es)))→cL P o ρ S2 S' pv)→cL P o ρ S2 S' pv:=fun S2 hA _ _ k=>cL.bc fun g w a hI hv=>by
      have pn:=hv x lu
      rw [hx] at pn
      obtain ⟨b,s,bo⟩:=pn.AK
      have ha:=hA (cV q j) (bz (r:=q) (j:=j) hq (.head _))
      exact k (cM g S2 w b s hI ha.1 ha.2 bo)
     have OV:told ρ y (bq ka tk kx) x = .mp (.cE q j):=by rw [jN jk,hx]
     have GB:∀g v,V g (told ρ y (bq ka tk kx) z) v→V g (bq va tv vy) v:=fun g v hv=>by
      rw [jN (Xl h1.2)] at hv;exact fl QC hv
     have conv:=fun {S S':Hp} {pv:A}=>cL.conv (P:=P) (o:=o) (ρ:=ρ) (ρ':=told ρ y (bq ka tk kx)) (S:=S) (S':=S') (pv:=pv) (fun x _ g v hv=>kG (fun g v hv=>fl mw hv) x g v hv)
     have hs:eL E KT e.d (told ρ y (bq ka tk kx) y) (told ρ y (bq ka tk kx) y)=some (nK tk kx kx):=by rw [dk];exact oA he h1.1.1 kx kx
     have hf:=fU (va:=va) (tv:=tv) he h1.1.1 kx es 0
     rcases eg hr with ⟨e1,hr⟩ | ⟨p,e1,hr⟩
     ·obtain ⟨h',k1,k2⟩:=oc hq hr
      refine ⟨_,_,_,k1,.put hd hX k2 uk (fun S2 hA=>here S2 hA fun ct=>?_)⟩
      have e2:fN ka tk va tv (cat es [(kx,vy)])=fN ka tk va tv es++[(bq ka tk kx,bq va tv vy)]:=by simp [fN,cat]
      rw [e2]
      rw [e1] at hf
      exact conv (sN (X:=.cE q j) hE Fi hT he h1.1.2 hs OV ct (fun g v hv=>by rw [dk] at hv;exact hv) GB (by rw [dk];exact hf))
     ·cases hi:ins with
      | true=>rw [hi] at hr;cases hr
      | false=>
       rw [hi] at hr;simp only [cond_false] at hr
       obtain ⟨h',k1,k2⟩:=oc hq hr
       refine ⟨_,_,_,k1,.put hd hX k2 uk (fun S2 hA=>here S2 hA fun ct=>?_)⟩
       have e2:fN ka tk va tv (ET es p.1 vy)=uM (fN ka tk va tv es) p.1 (bq va tv vy):=by
        unfold fN ET uM
        apply List.ext_getElem?
        intro m
        simp only [zL,List.getElem?_modify]
        cases es[m]? with
        | none=>rfl
        | some u=>
         by_cases hm:p.1=m
         ·simp [hm]
         ·simp [hm]
       rw [e2]
       rw [e1] at hf
       obtain ⟨m,kk,m1,m2,m3⟩:=qc es 0 p.1 p.2 e1
       have XI:o.op = .mapUpdate T x y z:=by
        rcases ho with ⟨_,ho⟩ | ⟨hh,_⟩
        ·exact ho
        ·rw [hi] at hh;cases hh
       refine conv (wX (X:=.cE q j) (n:=p.1) hE XI hT he h1.1.2 hs OV ct GB (by rw [dk];exact hf) (fun g v u v' hu hv qU=>?_))
       rw [dk] at hv
       have qh:(fN ka tk va tv es)[p.1]?=some (bq ka tk kk,bq va tv p.2):=by
        rw [m1,Nat.zero_add]
        unfold fN
        rw [zL,m2];rfl
       rw [qh] at hu
       cases hu
       exact xn h1.1.1 m3 hv qU
    ·cases hr
   ·cases hr
  ·cases hr
 ·cases hr
end
end
section
open Go.RowKit
section
variable {P:Program} {E:Env} {o:Oper} {ρ:Operand→A} {h:H} {β:Type} {K:A→H→Fp→Option β} {r:β}
def xi (E:Env) (T:Nat) (px py:A) (h:H) (K:A→H→Fp→Option β):Option β:=match bM E.cj T with
 | some ⟨.map KT _,_,_,_,_,_,_⟩=>match bM E.cj KT with
  | some e=>match px with
   | .mp (.loc q)=>match h.t.get q with
    | some (.bV (.map es))=>match eL E KT e.d py py with
     | some _=>bif g_ E e.d && Nat.blt q 16777216 && !(qe h (b8 q)) then nJ (eL E KT e.d py) es 0 (fun res=>cO h.t q (some (.bV (.map (yi es res)))) (fun t1=>K .bR { h with t:=t1 } (.wr [b8 q]))) else none
     | none=>none
    | _=>none
   | .mp (.cE q j)=>Lj h q j (fun ka tk va tv es=>bif xo E KT e ka tk && g_ E e.d then (match gu ka tk py with
    | some x=>opt (zc (nK tk x) es 0) (ui h q j ka tk va tv es (fun h'=>K .bR h' (.wr [d_ q])))
     (fun p=>ui h q j ka tk va tv (EV es p.1) (fun h'=>K .bR h' (.wr [d_ q])))
    | none=>none) else none)
   | _=>none
  | none=>none
 | _=>none
theorem yl {ka:Bool} {tk:Ty} {va:Bool} {tv:Ty} (es:List (tk.T×tv.T)) (p:Option (Nat×tv.T)) :
  fN ka tk va tv (match p with | some p=>EV es p.1 | none=>es)=yi (fN ka tk va tv es) (p.map fun p=>(p.1,bq va tv p.2)):=by
 cases p with
 | none=>rfl
 | some p=>
  show (es.eraseIdx p.1).map _=(es.map _).eraseIdx p.1
  generalize p.1=n
  induction es generalizing n with
  | nil=>rfl
  | cons a es ih=>cases n with
   | zero=>rfl
   | succ n=>simp only [List.map_cons,List.eraseIdx_cons_succ,List.map_cons,ih n]
theorem xh (hE:bt P E) {T:Nat} {x y:Operand} {Ts:Array TypeId} (ho:o.op = .call { callee:=.builtin .delete,args:=#[x,y],argTypes:=Ts }) (h0:Ts[0]?=some T) (hr:xi E T (ρ x) (ρ y) h K=some r):Out P o ρ h K r:=by
 have hd:∀c,o.op≠.defer c:=by rw [ho];intro c e;cases e
 have lu:x∈o.op.operands:=by simp [ho,Op.operands,Call.operands]
 unfold xi at hr
 split at hr
 ·rename_i KT VT _ _ _ _ _ _ ht
  have hT:=(hE.cj _ _ ht).u
  split at hr
  ·rename_i e he
   split at hr
   ·rename_i q hx
    split at hr
    ·rename_i es hg
     split at hr
     ·rename_i b hs
      obtain ⟨h1,hr⟩:=ae hr
      simp only [zC] at h1
      have hq:=aQ h1.1.2
      obtain ⟨res,k1,k2⟩:=kh _ _ _ hr
      have cM:(hp h).ob q=some (.bV (.map es)):=by rw [fw hq];unfold cY;rw [hg];rfl
      obtain ⟨_,t1,k3,k4⟩:=aY k1
      exact ⟨_,_,_,k3,.of [.set q (.bV (.map (yi es res)))] (kT (x:=.bV (.map (yi es res))) hq k4) rfl (fun u hu=>by rcases zF.1 hu with rfl;exact az (o:=q) hq (.head _))
       (fun S2 hA=>mf hE ho h0 hT he h1.1.1 hs hx ((hA q (az hq (.head _))).1.trans cM) k2) hd⟩
     ·cases hr
    ·cases hr
   ·rename_i q j hx
    obtain ⟨ka,tk,va,tv,es,hr,hq,_,cM⟩:=rD hr
    obtain ⟨h1,hr⟩:=ae hr
    simp only [zC] at h1
    split at hr
    ·rename_i kx mw
     have jk:x≠y:=fun e=>by rw [←e,hx] at mw;exact pS h1.1 mw
     have hX:uG (.cE q j)=true:=by show Nat.blt q 64=true;simpa using hq
     have uk:∀(g:G) (S:Hp) (w:World) (a:Act),Inv g S w→(∀x∈o.op.operands,V g (ρ x) (a.eval x))→g.bc (Ref.cE q j).id≠none:=fun g S w a hI hv=>by
      have pn:=hv x lu
      rw [hx] at pn
      obtain ⟨b,s,bo⟩:=pn.AK
      rw [bo];intro h;cases h
     have here:∀S2,Agree (.wr (eB (.cE q j)::[])) (hp h) S2→∀{S':Hp} {pv:A},(S2.ob (cV q j)=some (.bV (.map (fN ka tk va tv es)))→cL P o ρ S2 S' pv)→cL P o ρ S2 S' pv:=fun S2 hA _ _ k=>cL.bc fun g w a hI hv=>by
      have pn:=hv x lu
      rw [hx] at pn
      obtain ⟨b,s,bo⟩:=pn.AK
      have ha:=hA (cV q j) (bz (r:=q) (j:=j) hq (.head _))
      exact k (cM g S2 w b s hI ha.1 ha.2 bo)
     have OV:told ρ y (bq ka tk kx) x = .mp (.cE q j):=by rw [jN jk,hx]
     have conv:=fun {S S':Hp} {pv:A}=>cL.conv (P:=P) (o:=o) (ρ:=ρ) (ρ':=told ρ y (bq ka tk kx)) (S:=S) (S':=S') (pv:=pv) (fun x _ g v hv=>kG (fun g v hv=>fl mw hv) x g v hv)
     have hs:eL E KT e.d (told ρ y (bq ka tk kx) y) (told ρ y (bq ka tk kx) y)=some (nK tk kx kx):=by rw [dk];exact oA he h1.1 kx kx
     have hf:=fU (va:=va) (tv:=tv) he h1.1 kx es 0
     have main:∀p,zc (nK tk kx) es 0=p→ui h q j ka tk va tv (match p with | some p=>EV es p.1 | none=>es) (fun h'=>K .bR h' (.wr [d_ q]))=some r→Out P o ρ h K r:=fun p xI hr=>by
      obtain ⟨h',k1,k2⟩:=oc hq hr
      refine ⟨_,_,_,k1,.put hd hX k2 uk (fun S2 hA=>here S2 hA fun ct=>?_)⟩
      rw [xI] at hf
      rw [yl]
      exact conv (mf (X:=.cE q j) hE ho h0 hT he h1.2 hs OV ct (by rw [dk];exact hf))
     rcases eg hr with ⟨e1,hr⟩ | ⟨p,e1,hr⟩
     ·exact main none e1 hr
     ·exact main (some p) e1 hr
    ·cases hr
   ·cases hr
  ·cases hr
 ·cases hr
def rR:List (Nat×Nat)→Nat→Option Nat
 | [],_=>none
 | (t,r)::l,T=>bif Nat.beq t T then some r else rR l T
def wK (h:H) (q:Nat) (t:Ty) (x:t.T) (k:Nat→H→Option β):Option β:=bif qe h (d_ q) then none else match a7 h.rg q with
 | some ⟨_,.box t',c⟩=>match c_ t t' x with
  | some x'=>bif Nat.blt q 64 then k (len (α:=t'.T) c) { h with rg:=eR h.rg q (.box t') (cat (α:=t'.T) c [x']) } else none
  | none=>none
 | _=>none
theorem pR {q:Nat} {t:Ty} {x:t.T} {k:Nat→H→Option β} (hr:wK h q t x k=some r):∃h' j,k j h'=some r∧q<64∧(hp h).fr (cV q j)∧hp h'=app [.new (cV q j) (.cells (aB t x))] (hp h):=by
 obtain ⟨_,hr⟩:=eP hr
 split at hr
 ·rename_i rr t' c hf
  split at hr
  ·rename_i x' hx
   obtain ⟨e,hx⟩:=bJ hx
   subst e
   obtain rfl:x=x':=hx
   obtain ⟨h1,hr⟩:=ae hr
   have h3:q<64:=aQ h1
   refine ⟨_,_,hr,h3,?_,?_⟩
   ·rw [dq.2,dh h3 hf];exact Nat.le_refl _
   ·exact j8 (k:=.box t) (c:=cat (α:=t.T) c [x]) (n:=List.length (α:=t.T) c) h3 hf rfl (j0 (α:=t.T) c _) (fun j=>l5 (c:=c) (x:=x) j)
  ·cases hr
 ·cases hr
theorem V.Ai {g:G} {q j:Nat} {v:Value} (hv:V g (.ptr (cV q j) 0) v):V g (.tp (.cE q j) []) v:=by
 cases hv with
 | ptr _ _ b s hb=>exact .tp (.cE q j) [] b s hb trivial
def Gm (E:Env) (hm:List (Nat×Nat)) (T:Nat) (h:H) (K:A→H→Fp→Option β):Option β:=match rR hm T with
 | some q=>match bM E.cj T with
  | some e=>match e.t with
   | some t=>wK h q t t.bT (fun j h'=>K (.tp (.cE q j) []) h' (.wr [d_ q]))
   | none=>none
  | none=>none
 | none=>Gn E T h K
theorem BN (hE:bt P E) {hm:List (Nat×Nat)} {T:Nat} (ho:o.op = .alloc T) (hr:Gm E hm T h K=some r):Out P o ρ h K r:=by
 have hd:∀c,o.op≠.defer c:=by rw [ho];intro c e;cases e
 unfold Gm at hr
 split at hr
 ·rename_i q _
  split at hr
  ·rename_i e ht
   have hk:=hE.cj _ _ ht
   obtain ⟨i,t1,t2,t3,t4,t5,t6⟩:=hk.ti
   split at hr
   ·rename_i t qV
    obtain ⟨h',j,k1,hq,hf,hh⟩:=pR hr
    exact ⟨_,_,_,k1,Step.vQ (.of _ hh rfl (fun u hu=>by rcases zF.1 hu with rfl;exact bz (r:=q) (j:=j) hq (.head _)) (fun S2 hA=>jC ho t1 t2 (hk.tz t qV) ((hA _ (bz (r:=q) (j:=j) hq (.head _))).2.2 hf)) hd) (fun g v hv=>hv.Ai)⟩
   ·cases hr
  ·cases hr
 ·exact BO hE ho hr
def Gh (E:Env) (hm:List (Nat×Nat)) (T:Nat) (px:A) (h:H) (K:A→H→Fp→Option β):Option β:=match rR hm T with
 | some q=>match bM E.cj T,px.cells with
  | some e,some ps=>match e.t with
   | some t=>match fixC 64 t ps h with
    | some (oe,h1,T1)=>match kC t oe with
     | some x=>wK h1 q t x (fun j h'=>K (.tp (.cE q j) []) h' (.wr (d_ q::T1)))
     | none=>none
    | none=>none
   | none=>none
  | _,_=>none
 | none=>yE E T px h K
theorem Step.Qj {T1:List Nat} {h1 h2:H} {us:List Up} {x:Ob} {pv:A} {q j:Nat} (c1:hp h1=app us (hp h)) (c2:∀u∈us,touch (.wr T1) u.id=true) (hq:q<64) (hf:(hp h1).fr (cV q j)) (hh:hp h2=app [.new (cV q j) x] (hp h1)) (hd:∀c,o.op≠.defer c)
  (k:∀S2 g w a,Agree (.wr T1) (hp h) S2→(app us S2).fr (cV q j)→Inv g S2 w→(∀x∈o.op.operands,V g (ρ x) (a.eval x))→ng P o S2 ((app us S2).new (cV q j) x) pv g w a):Step P o ρ h h2 (.wr (d_ q::T1)) pv:=
 .of (us++[.new (cV q j) x]) (by rw [ep,←c1,hh]) rfl (fun u hu=>by
  rcases zX.1 hu with hu | hu
  ·exact cN (fun i hi=>.tail _ hi) (c2 u hu)
  ·rcases zF.1 hu with rfl;exact bz (r:=q) (j:=j) hq (.head _)) (fun S2 hA g w a next Q hI hv K'=>by
  have jH:(app us S2).fr (cV q j):=by
   have:=Agree.app us hA
   rw [←c1] at this
   exact (this (cV q j) (bz hq (.head _))).2.2 hf
  have e:=ep us [.new (cV q j) x] S2
  rw [e] at K'
  exact k S2 g w a (hA.mono fun i hi=>.tail _ hi) jH hI hv next Q K') hd
theorem BG {S:Hp} {T:TypeId} {x:Operand} {qs:List A} {q:Nat} {g:G} {w:World} {a:Act} (ho:o.op = .box T x) (hI:Inv g S w) (e2:Vs g qs (a.eval x).cells.toList) (hf:S.fr q):ng P o S (S.new q (.cells qs)) (.ptr q 0) g w a:=by
 intro next Q K
 obtain ⟨h1,h2⟩:=hI.gY hf (cs:=qs) (vs:=(a.eval x).cells) T (by have:=e2.1;simp at this ⊢;omega) e2.all
 unfold Oper.wp
 simp only [execOp,ho,Instr.box,Sem.run_bind,Result.andThen_ok,Sem.run_pure,newVar,newRow,run_newObj]
 exact K _ _ _ (.ptr _ _ w.heap.size _ bG) h1 h2
theorem BE {hm:List (Nat×Nat)} {T:Nat} {x:Operand} (ho:o.op = .box T x) (hr:Gh E hm T (ρ x) h K=some r):Out P o ρ h K r:=by
 have hd:∀c,o.op≠.defer c:=by rw [ho];intro c e;cases e
 unfold Gh at hr
 split at hr
 ·rename_i q _
  split at hr
  ·rename_i e ps ht nf
   split at hr
   ·rename_i t qV
    split at hr
    ·rename_i oe h1 T1 hf
     split at hr
     ·rename_i y hy
      obtain ⟨us,c1,c2,c3⟩:=kg _ _ _ _ _ _ _ hf
      obtain ⟨h',j,k1,hq,jH,hh⟩:=pR hr
      refine ⟨_,_,_,k1,Step.vQ (pv:=.ptr (cV q j) 0) (.Qj c1 c2 hq jH hh hd (fun S2 g w a hA hf hI hv=>?_)) (fun g v hv=>?_)⟩
      ·obtain ⟨g1,q1,q2,q3⟩:=c3 g S2 w _ hI hA ((hv x (by simp [ho,Op.operands])).cells nf)
       refine ng.pre ?_ q2
       exact BG ho q1 ((eQ t oe y hy).2 _ q3) hf
      ·cases hv with
       | ptr _ _ b s h0=>exact .tp (.cE q j) [] b s h0 trivial
     ·cases hr
    ·cases hr
   ·cases hr
  ·cases hr
 ·exact yD ho hr
end
end
section
variable {P:Program} {E:Env} {o:Oper} {ρ:Operand→A} {h:H} {β:Type} {K:A→H→Fp→Option β} {r:β}
def Ry (E:Env) (T f:Nat) (px:A) (h:H) (K:A→H→Fp→Option β):Option β:=match px with
 | .agg cs=>match bM E.cj T with
  | some ⟨.struct fs,_,_,_,_,_,_⟩=>match fs[f]? with
   | some fd=>match bM E.cj fd.type with
    | some e=>bif fb e.d then K (.agg ((cs.drop fd.offset).take e.size)) h .no else (match (cs.drop fd.offset).take e.size with
     | [p]=>vZ p (fun v=>K v h .no)
     | _=>none)
    | none=>none
   | none=>none
  | _=>none
 | _=>none
theorem V.Oj {g:G} {cs:List A} {u:Value} (h:V g (.agg cs) u):∃vs,u = .agg vs∧Vs g cs vs.toList:=by
 cases h with
 | agg _ vs hl h1 hh=>
  refine ⟨vs,rfl,by simpa using hl,fun j c x a b=>?_⟩
  have b':vs[j]?=some x:=by simpa using b
  exact ⟨hh j c x a b',h1 x (zG b)⟩
theorem Fz (hE:bt P E) {T f:Nat} {x:Operand} (ho:o.op = .field T x f) (hr:Ry E T f (ρ x) h K=some r):Out P o ρ h K r:=by
 have hd:∀c,o.op≠.defer c:=by rw [ho];intro c e;cases e
 unfold Ry at hr
 split at hr
 ·rename_i cs hx
  split at hr
  ·rename_i fs _ _ _ _ t _ ht
   split at hr
   ·rename_i fd hf
    split at hr
    ·rename_i e he
     have key:∀{S2:Hp} {v:A},(∀g xs,Vs g ((cs.drop fd.offset).take e.size) xs→∃u,valOf e.d xs u∧V g v u)→cL P o ρ S2 S2 v:=fun {S2 v} hk=>.value fun g w a _ hv=>by
      have e1:=hv x (by simp [ho,Op.operands])
      rw [hx] at e1
      obtain ⟨vs,e2,e3⟩:=e1.Oj
      obtain ⟨u,h1,h2⟩:=hk g _ (e3.part fd.offset e.size)
      refine ⟨u,?_,h2⟩
      simp only [execOp,ho,e2,Sem.run_bind,Instr.field,run_underlying (hE.cj _ _ ht).u,Result.andThen_ok,hf,asAgg,Sem.run_pure,jS (hE.cj _ _ he) h1 w]
     cases ha:fb e.d with
     | true=>
      rw [ha] at hr
      refine .pure hr (fun S2=>key fun g xs uR=>⟨.agg xs.toArray,by simp [valOf,ha],?_⟩) hd
      exact .agg _ _ (by simpa using uR.1) (fun v hm=>by
       obtain ⟨j,hj⟩:=List.getElem?_of_mem hm
       simp only [List.toList_toArray] at hj
       have du:j<((cs.drop fd.offset).take e.size).length:=by
        have:=(zB.1 hj).1;have:=uR.1;omega
       exact (uR.2 j _ v (zD du) hj).2) (fun i c y h1 h2=>(uR.2 i c y h1 (by simpa using h2)).1)
     | false=>
      rw [ha] at hr
      simp only [cond_false] at hr
      split at hr
      ·rename_i p hp
       refine .sp hr (.pure (fun S2=>key fun g xs uR=>?_) hd)
       rw [hp] at uR
       obtain ⟨z,e1,e2⟩:=uR.single
       exact ⟨z,by simp [valOf,ha,e1],e2⟩
      ·cases hr
    ·cases hr
   ·cases hr
  ·cases hr
 ·cases hr
def isNil (py:A):Bool:=match py with
 | .v (.slice none 0 0)=>true
 | _=>false
theorem xA {py:A} (h:isNil py=true):py = .v (.slice none 0 0):=by
 unfold isNil at h
 split at h
 ·rfl
 ·cases h
def yj (E:Env) (op:BinOp) (T:Nat) (X:Ref) (z:Nat) (h:H) (K:A→H→Fp→Option β):Option β:=bif isEq op then (match bM E.cj T with
  | some e=>match e.d with
   | .slice _=>eS h X (fun t l=>bif Nat.beq z t.size && Nat.blt 0 z then gd (bx 0 (len l)) (K (.v (.bool (uL op false))) h (.rd [eB X])) else none)
   | _=>none
  | none=>none) else none
def FK (E:Env) (op:BinOp) (T:Nat) (px py:A) (h:H) (K:A→H→Fp→Option β):Option β:=match px with
 | .tw X z=>bif isNil py then yj E op T X z h K else yG E op T px py h K
 | .os r z o=>bif isNil py then opt o none (fun j=>yj E op T (.cE r j) z h K) else yG E op T px py h K
 | _=>yG E op T px py h K
theorem Ay {S:Hp} {op:BinOp} {T T' E:TypeId} {x y:Operand} (ho:o.op = .binOp op T x y T') (hT:P.underlying T=some (.slice E)) (pq:op = .eql∨op = .neq)
  (hy:ρ y = .v (.slice none 0 0)) (hx:∀g w v,Inv g S w→V g (ρ x) v→∃a n c,v = .slice (some a) n c):cL P o ρ S S (.v (.bool (if op = .eql then false else !false))):=
 .value fun g w a hI hv=>by
  have e2:=hv y (by simp [ho,Op.operands])
  rw [hy] at e2
  have e2:=e2.dm
  obtain ⟨A,n,c,h1⟩:=hx g w _ hI (hv x (by simp [ho,Op.operands]))
  have cU:=sD (P:=P) w hT (some A) n c
  refine ⟨.bool (if op = .eql then false else !false),?_,.v _⟩
  have fy:(eqGuard op T x y (.slice (some A) n c) (.slice none 0 0)).run P w = .ok () w:=by
   rcases pq with rfl | rfl<;>rfl
  rcases pq with rfl | rfl
  ·have hb:(binOp .eql T (.slice (some A) n c) (.slice none 0 0)).run P w = .ok (.bool false) w:=by
    simp only [binOp];simp [Op.equal,Op.maxDepth,cU]
   simp only [execOp,ho,h1,e2,Sem.run_bind,fy,Result.andThen_ok,if_true,hb,Sem.run_pure]
  ·have hb:(binOp .neq T (.slice (some A) n c) (.slice none 0 0)).run P w = .ok (.bool (!false)) w:=by
    simp only [binOp];simp [Op.equal,Op.maxDepth,cU]
   simp only [execOp,ho,h1,e2,Sem.run_bind,fy,Result.andThen_ok,hb,Sem.run_pure]
   rfl
theorem tq (hE:bt P E) {op:BinOp} {T T':TypeId} {x y:Operand} {X:Ref} {z:Nat} (ho:o.op = .binOp op T x y T') (hn:isNil (ρ y)=true) (hx:∀g v,V g (ρ x) v→V g (.tw X z) v) (hr:yj E op T X z h K=some r):Out P o ρ h K r:=by
 have hd:∀c,o.op≠.defer c:=by rw [ho];intro c e;cases e
 have hy:=xA hn
 unfold yj at hr
 obtain ⟨hq,hr⟩:=ae hr
 split at hr
 ·rename_i e ht
  split at hr
  ·rename_i el vD
   obtain ⟨t,l,hr,hX,cM⟩:=cJ hr
   obtain ⟨hz,hr⟩:=ae hr
   simp only [zC] at hz
   have LA:=beq_eq hz.1
   have h0:=aQ hz.2
   obtain ⟨hl,hr⟩:=ba hr
   have hl:0<l.length:=hl
   refine .read _ hr (fun S2 hA=>?_) hd
   have ct:=(hA _ (bh hX (.head _))).1.trans cM
   rw [jZ _ hq]
   refine Ay ho (by rw [(hE.cj _ _ ht).u,vD]) (gM hq) hy (fun g w v hI hv=>?_)
   have hv:=hx _ _ hv
   rw [LA] at hv
   rcases hv.lO hI (by omega) ct with ⟨ad,_,rfl,rfl⟩ | ⟨b,s,cap,d,_,rfl,_⟩
   ·cases hl
   ·exact ⟨_,_,_,rfl⟩
  ·cases hr
 ·cases hr
theorem Bt (hE:bt P E) {op:BinOp} {T T':TypeId} {x y:Operand} (ho:o.op = .binOp op T x y T') (hr:FK E op T (ρ x) (ρ y) h K=some r):Out P o ρ h K r:=by
 unfold FK at hr
 split at hr
 ·rename_i X z hx
  cases hn:isNil (ρ y) with
  | true=>
   rw [hn] at hr
   exact tq hE ho hn (fun g v hv=>by rwa [hx] at hv) hr
  | false=>
   rw [hn] at hr
   exact o4 hE ho hr
 ·rename_i ri z oo hx
  cases hn:isNil (ρ y) with
  | true=>
   rw [hn] at hr
   rcases eg (show opt oo none (fun j=>yj E op T (.cE ri j) z h K)=some r from hr) with ⟨_,h2⟩ | ⟨j,h1,h2⟩
   ·cases h2
   ·exact tq hE ho hn (fun g v hv=>by
     rw [hx] at hv
     cases hv with
     | os _ _ _ _ _ k1=>exact k1 j h1) h2
  | false=>
   rw [hn] at hr
   exact o4 hE ho hr
 ·exact o4 hE ho hr
end
section
open Go.RowKit
section
variable {P:Program} {E:Env} {o:Oper} {ρ:Operand→A} {h:H} {β:Type} {K:A→H→Fp→Option β} {r:β}
structure nR (P:Program) (f:FuncId) (aa:List A) (h h':H) (T:Fp) (pv:A):Prop where
 out:∀i,touch T i=false→(hp h').ob i=(hp h).ob i∧((hp h').fr i↔(hp h).fr i)
 rd:∀i,wt T i=false→(hp h').ob i=(hp h).ob i∧((hp h').fr i↔(hp h).fr i)
 fn:pf P f
 ok:∀S2,Agree T (hp h) S2→PC P f aa S2 (et T (hp h') S2) pv
def RC (P:Program) (y:A) (aa:List A) (S S':Hp) (r:A):Prop:=
 ∀g w u (vs:List Value),Inv g S w→V g y u→aa.length=vs.length→(∀(i:Nat) (p:A) (v:Value),aa[i]?=some p→vs[i]?=some v→V g p v) →
  ∃(b:Nat) (rr:Loop),u = .func (.yield b) #[] #[]∧w.heap[b]?=some (.loop rr)∧rr.params.size=vs.length ∧
   RoundIn (FR none) 0 P b rr.fn ((rr.params.zip vs.toArray).foldl (fun tmps (t,a)=>tmps.setIfInBounds t a) rr.tmps) rr.assign rr.body w (fun e w'=>∃v g',e = .returned v∧V g' r v∧Inv g' S' w'∧Ext S g w S' g' w')
structure Eb (P:Program) (y:A) (aa:List A) (h h':H) (T:Fp) (pv:A):Prop where
 out:∀i,touch T i=false→(hp h').ob i=(hp h).ob i∧((hp h').fr i↔(hp h).fr i)
 rd:∀i,wt T i=false→(hp h').ob i=(hp h).ob i∧((hp h').fr i↔(hp h).fr i)
 ok:∀S2,Agree T (hp h) S2→RC P y aa S2 (et T (hp h') S2) pv
theorem uE {y:A} {x:Operand} {xs:Array Operand} {ts:Array TypeId} {S S':Hp} {r:A} (ho:o.op = .call { callee:=.value x,args:=xs,argTypes:=ts }) (hx:ρ x=y) (h:RC P y (xs.toList.map ρ) S S' r):vr P o ρ S S' r:=by
 intro ro g w a next Q hI hv K
 have e1:=hx▸hv x (by simp [ho,Op.operands,Call.operands])
 obtain ⟨b,rr,hu,h1,h2,h3⟩:=h g w (a.eval x) (xs.toList.map a.eval) hI e1 (by simp) (fun i p v k1 k2=>by
  simp only [zL,Option.map_eq_some_iff,Array.getElem?_toList] at k1 k2
  obtain ⟨y,hy,rfl⟩:=k1
  obtain ⟨y',rP,rfl⟩:=k2
  rw [hy] at rP
  obtain rfl:=Option.some.inj rP
  exact hv y (by simp only [ho,Op.operands,Call.operands];exact Array.mem_append.2 (.inr (Array.mem_of_getElem? hy))))
 refine ⟨fun f _=>trivial,?_⟩
 rw [Oper.semAt_eq _ _ _ (by rw [ho];intro c h;cases h)]
 have ea : #[]++Array.map a.eval xs=(xs.toList.map a.eval).toArray:=by apply Array.ext';simp
 have e:(execOp a.eval o).run P w = .ok (.round b rr.fn ((rr.params.zip (xs.toList.map a.eval).toArray).foldl (fun tmps (t,a)=>tmps.setIfInBounds t a) rr.tmps) rr.assign rr.body) w:=by
  simp only [execOp,ho,resolve,hu,Deferred.ofValue,pure_bind,invoke]
  rw [ea]
  exact run_yield h1 (by simp [h2])
 rw [e]
 refine ⟨fun h=>by simp [FR,Fence.wide] at h,RoundIn.mono (F:=FR ro) h3 ?_⟩
 rintro e w' ⟨v,g',rfl,k1,k2,k3⟩
 exact K v g' w' k1 k2 k3
structure Cx where
 call:(β:Type)→FuncId→List A→H→(A→H→Fp→Option β)→Option β
 hm:List (Nat×Nat)
 mU:(β:Type)→A→List A→H→(A→H→Fp→Option β)→Option β
structure gD (P:Program) (cx:Cx):Prop where
 call:∀(β:Type) (f:FuncId) (aa:List A) (h:H) (K:A→H→Fp→Option β) (r:β),cx.call β f aa h K=some r→∃pv h' T,K pv h' T=some r∧nR P f aa h h' T pv
 mU:∀(β:Type) (y:A) (aa:List A) (h:H) (K:A→H→Fp→Option β) (r:β),cx.mU β y aa h K=some r→∃pv h' T,K pv h' T=some r∧Eb P y aa h h' T pv
def yC (cx:Cx) (px:A) (aa:List A) (h:H) (K:A→H→Fp→Option β):Option β:=match px with
 | .fn f fi ca=>cx.call β f (fi++aa++ca) h K
 | .mU _ _ _ _ _ _ _=>cx.mU β px aa h K
 | _=>none
theorem yB {cx:Cx} (hx:gD P cx) {x:Operand} {xs:Array Operand} {ts:Array TypeId} (ho:o.op = .call { callee:=.value x,args:=xs,argTypes:=ts }) (hr:yC cx (ρ x) (xs.toList.map ρ) h K=some r):Out P o ρ h K r:=by
 have hd:∀c,o.op≠.defer c:=by rw [ho];intro c e;cases e
 unfold yC at hr
 split at hr
 ·rename_i f fi ca xI
  obtain ⟨pv,h',T,k1,k2⟩:=hx.call β f _ h K r hr
  exact ⟨pv,h',T,k1,⟨k2.out,k2.rd,fun S2 hA=>(uC ho k2.fn xI (k2.ok S2 hA)).Dz hd⟩⟩
 ·rename_i xI
  obtain ⟨pv,h',T,k1,k2⟩:=hx.mU β _ _ h K r hr
  exact ⟨pv,h',T,k1,⟨k2.out,k2.rd,fun S2 hA=>uE ho xI (xI▸k2.ok S2 hA)⟩⟩
 ·cases hr
def sC:Operand→Operand→Bool
 | .tmp i,.tmp j=>Nat.beq i j
 | .const (.int .i64 (.ofNat a)),.const (.int .i64 (.ofNat b))=>Nat.beq a b
 | _,_=>false
theorem pI {x y:Operand} (h:sC x y=true):x=y:=by
 unfold sC at h
 split at h
 ·rw [beq_eq h]
 ·rw [beq_eq h]
 ·cases h
def OM:Operand→Operand→Bool
 | .tmp i,.tmp j=>!(Nat.beq i j)
 | .tmp _,.const _=>true
 | .const _,.tmp _=>true
 | _,_=>false
theorem xe {x y:Operand} (h:OM x y=true):y≠x:=by
 rintro rfl
 cases y<;>simp [OM] at h
def pJ:Option Operand→Option Operand→Bool
 | some x,some y=>sC x y
 | _,_=>false
theorem wh {x y:Option Operand} (h:pJ x y=true):x=y:=by
 unfold pJ at h
 split at h
 ·rw [pI h]
 ·cases h
def Gj (E:Env) (b:Builtin) (xs:List Operand) (ts:List TypeId) (ρ:Operand→A) (h:H) (K:A→H→Fp→Option β):Option β:=match b,xs,ts with
 | .append,[x,y],[T,T']=>bif Nat.beq T T' then Gl E T (ρ x) (ρ y) h K else none
 | .len,[x],[T]=>EY E T (ρ x) h K
 | .min,[x,y],_=>Gz false (ρ x) (ρ y) h K
 | .max,[x,y],_=>Gz true (ρ x) (ρ y) h K
 | .copy,[x,y],[T,_]=>yA E T (ρ x) (ρ y) h K
 | .clear,[x],[T]=>Gc E T (ρ x) h K
 | .delete,[x,y],T::_=>xi E T (ρ x) (ρ y) h K
 | _,_,_=>none
theorem BH (hE:bt P E) {b:Builtin} {xs:Array Operand} {ts:Array TypeId} (ho:o.op = .call { callee:=.builtin b,args:=xs,argTypes:=ts }) (hr:Gj E b xs.toList ts.toList ρ h K=some r):Out P o ρ h K r:=by
 obtain ⟨xs⟩:=xs
 obtain ⟨ts⟩:=ts
 simp only at hr
 unfold Gj at hr
 split at hr
 ·obtain ⟨hT,hk⟩:=ae hr
  clear hr
  obtain rfl:=beq_eq hT
  exact BL hE ho hk
 ·exact AQ hE ho hr
 ·exact AL ho hr
 ·exact AM ho hr
 ·exact yz hE ho hr
 ·exact BC hE ho hr
 ·exact xh hE ho rfl hr
 ·cases hr
theorem vr.TJ {P:Program} {op':Op} {ρ:Operand→A} {S S':Hp} {v:A} (hd:∀c,o.op≠.defer c) (jl:∀c,op'≠.defer c) (hs:∀x∈op'.operands,x∈o.op.operands) (he:∀(g:G) (a:Act),(∀x∈o.op.operands,V g (ρ x) (a.eval x))→execOp a.eval o=execOp a.eval { o with op:=op' }) (h:vr P { o with op:=op' } ρ S S' v):vr P o ρ S S' v:=by
 intro r g w a next Q hI hv K
 have h1:=h r g w a next Q hI (fun x hx=>hv x (hs x hx)) K
 refine ⟨fun f _=>trivial,?_⟩
 have h2:=h1.2
 rw [Oper.semAt_eq _ _ _ jl] at h2
 rw [Oper.semAt_eq _ _ _ hd,he g a hv]
 exact h2
def E3 (E:Env) (T:Nat) (X:Ref) (z:Nat) (lo hi mx:Option A) (h:H) (K:A→H→Fp→Option β):Option β:=match bM E.cj T with
 | some ⟨.slice el,_,_,_,_,_,_⟩=>match bM E.cj el with
  | some e=>eS h X (fun t x=>bif Nat.beq z e.size && Nat.beq z t.size && Nat.blt 0 z then vo lo 0 (fun l=>vo hi 0 (fun n=>vo mx 0 (fun m=>gd (bj l n) (gd (bj n m) (gd (bj m (len x)) (K .bR h (.rd [eB X]))))))) else none)
  | none=>none
 | _=>none
theorem AW (hE:bt P E) {T:Nat} {X:Ref} {z:Nat} {x lo hi mx:Operand} (ho:o.op = .slice T x (some lo) (some hi) (some mx)) (hx:ρ x = .tw X z) (hr:E3 E T X z (some (ρ lo)) (some (ρ hi)) (some (ρ mx)) h K=some r):Out P o ρ h K r:=by
 have hd:∀c,o.op≠.defer c:=by rw [ho];intro c e;cases e
 unfold E3 at hr
 split at hr
 ·rename_i el _ _ _ _ _ _ ht
  have hT:=(hE.cj _ _ ht).u
  split at hr
  ·rename_i e he
   have hz:=(hE.cj _ _ he).ti.size
   obtain ⟨t,x',hr,hX,cM⟩:=cJ hr
   obtain ⟨hq,hr⟩:=ae hr
   simp only [zC] at hq
   have GG:=beq_eq hq.1.1
   have xF:=beq_eq hq.1.2
   have h0:=aQ hq.2
   obtain ⟨l,hr,oL⟩:=fJ (x:=some lo) hr
   obtain ⟨n,hr,oM⟩:=fJ (x:=some hi) hr
   obtain ⟨m,hr,OZ⟩:=fJ (x:=some mx) hr
   obtain ⟨h1,hr⟩:=ba hr
   obtain ⟨h2,hr⟩:=ba hr
   obtain ⟨h3,hr⟩:=ba hr
   have h1:l≤n:=h1
   have h2:n≤m:=h2
   have h3:m≤x'.length:=h3
   refine .read [eB X] hr (fun S2 hA=>mb ho hT hz oL oM OZ h1 h2 (fun g w v hI hv=>?_)) hd
   have ct:=(hA _ (bh hX (.head _))).1.trans cM
   rw [hx,xF] at hv
   obtain ⟨ad,cap,k1,k2,_,_⟩:=hv.CX (lo:=l) (hi:=n) hI (by omega) ct h1 (by omega)
   exact ⟨ad,_,cap,k1,by omega,.bR _⟩
  ·cases hr
 ·cases hr
def Ly:A→Bool
 | .tw _ _=>true
 | _=>false
def Ek (E:Env) (T:Nat) (px:A) (lo hi mx:Option A) (same:Bool) (h:H) (K:A→H→Fp→Option β):Option β:=bif same then v7 E T px lo hi mx true h K else bif Ly px && lo.isSome && mx.isSome && hi.isSome then (match px with
 | .tw X z=>E3 E T X z lo hi mx h K
 | _=>none) else (match mx,hi with
 | some (.v (.int k m)),some (.v (.int k' n))=>if k=k' then gd (E6 m n) (v7 E T px lo hi hi true h K) else none
 | mx,hi=>v7 E T px lo hi mx false h K)
theorem zO (hE:bt P E) {T:Nat} {x:Operand} {lo hi mx:Option Operand} (ho:o.op = .slice T x lo hi mx) (hr:Ek E T (ρ x) (lo.map ρ) (hi.map ρ) (mx.map ρ) (pJ mx hi) h K=some r):Out P o ρ h K r:=by
 unfold Ek at hr
 cases hb:pJ mx hi with
 | true=>rw [hb] at hr;exact nX hE ho (fun _=>wh hb) hr
 | false=>
  rw [hb] at hr
  simp only [cond_false] at hr
  cases ht:(Ly (ρ x) && (lo.map ρ).isSome && (mx.map ρ).isSome && (hi.map ρ).isSome) with
  | true=>
   rw [ht] at hr
   simp only [cond_true] at hr
   simp only [zC] at ht
   obtain ⟨ZF,rfl⟩:=isSome_map ht.1.1.2
   obtain ⟨ZE,rfl⟩:=isSome_map ht.1.2
   obtain ⟨Q8,rfl⟩:=isSome_map ht.2
   split at hr
   ·rename_i X z hx
    exact AW hE ho hx hr
   ·cases hr
  | false=>
  rw [ht] at hr
  simp only [cond_false] at hr
  split at hr
  ·rename_i k m k' n hm hn
   split at hr
   ·rename_i hk
    subst hk
    obtain ⟨he,nF⟩:=ba hr
    clear hr
    have he:m=n:=he
    subst he
    cases hi with
    | none=>cases hn
    | some hi=>
    cases mx with
    | none=>cases hm
    | some mx=>
    have hn:ρ hi = .v (.int k m):=Option.some.inj hn
    have hm:ρ mx = .v (.int k m):=Option.some.inj hm
    obtain ⟨pv,h',T',k1,k2⟩:=nX (o:={ o with op:=.slice T x lo (some hi) (some hi) }) hE rfl (fun _=>rfl) nF
    refine ⟨pv,h',T',k1,k2.out,k2.rd,fun S2 hA=>vr.TJ (op':=.slice T x lo (some hi) (some hi)) (by rw [ho];intro c e;cases e) (fun c e=>by cases e) (fun y hy=>?_) (fun g a hv=>?_) (k2.ok S2 hA)⟩
    ·rw [ho]
     simp only [Op.operands,Array.mem_append] at hy ⊢
     rcases hy with (hy | hy) | hy
     ·exact .inl (.inl hy)
     ·exact .inl (.inr hy)
     ·exact .inl (.inr hy)
    ·have e1:=hv mx (by rw [ho];simp [Op.operands])
     have e2:=hv hi (by rw [ho];simp [Op.operands])
     rw [hm] at e1
     rw [hn] at e2
     have e3:=e1.dm.trans e2.dm.symm
     simp only [execOp,ho,Option.map_some,e3]
   ·cases hr
  ·exact nX hE ho (fun h=>by cases h) hr
def Qi (E:Env) (cx:Cx) (op:Op) (ρ:Operand→A) (h:H) (K:A→H→Fp→Option β):Option β:=match op with
 | .move x=>V3 (ρ x) h K
 | .assign x=>V3 (ρ x) h K
 | .pick c x y=>wR (ρ c) (ρ x) (ρ y) h K
 | .extract x i=>FJ (ρ x) i h K
 | .binOp op T x y _=>FK E op T (ρ x) (ρ y) h K
 | .unOp op _ x=>Po op (ρ x) h K
 | .convert s d x=>Td E s d (ρ x) h K
 | .nilCheck x=>Lh (ρ x) h K
 | .fieldAddr T x f=>FE E T f (ρ x) h K
 | .field T x f=>Ry E T f (ρ x) h K
 | .indexAddr T x y=>Qu E T (ρ x) y (ρ y) h K
 | .load T x=>E0 E T (ρ x) h K
 | .store T x y=>P9 E T (ρ x) (ρ y) h K
 | .alloc T=>Gm E cx.hm T h K
 | .box T x=>Gh E cx.hm T (ρ x) h K
 | .build T ps=>Gk E T ρ ps.toList h K
 | .buildSlice T n ps=>Gi E T n ρ ps.toList h K
 | .makeSlice T x y=>Qm E T (sC x y) (ρ x) h K
 | .slice T x lo hi mx=>Ek E T (ρ x) (lo.map ρ) (hi.map ρ) (mx.map ρ) (pJ mx hi) h K
 | .makeFunc (.func f) fi ca=>Lm f (fi.toList.map ρ) (ca.toList.map ρ) h K
 | .makeMap _ none=>Ll h K
 | .lookup T x y ok=>EX E T ok (ρ x) (ρ y) h K
 | .mapUpdate T x y z=>sQ E T false (OM y z) (ρ x) (ρ y) (ρ z) h K
 | .insert T x y z=>sQ E T true (OM y z) (ρ x) (ρ y) (ρ z) h K
 | .call c=>match c.callee with
  | .value x=>yC cx (ρ x) (c.args.toList.map ρ) h K
  | .builtin b=>Gj E b c.args.toList c.argTypes.toList ρ h K
  | _=>none
 | _=>none
theorem ES (hE:bt P E) {cx:Cx} (hx:gD P cx) (hr:Qi E cx o.op ρ h K=some r):Out P o ρ h K r:=by
 generalize ho:o.op=op at hr
 have nd:∀{op:Op},o.op=op→(∀c,op≠.defer c)→∀c,o.op≠.defer c:=fun e k=>by rw [e];exact k
 unfold Qi at hr
 split at hr
 ·exact .pure hr (fun S2=>pX ho) (nd ho (fun c e=>by cases e))
 ·exact .pure hr (fun S2=>rC ho) (nd ho (fun c e=>by cases e))
 ·exact wQ ho hr
 ·exact Bs ho hr
 ·exact Bt hE ho hr
 ·exact Eg ho hr
 ·exact FY hE ho hr
 ·exact AI ho hr
 ·exact Bo hE ho hr
 ·exact Fz hE ho hr
 ·exact E4 hE ho hr
 ·exact EZ hE ho hr
 ·exact Ej hE ho hr
 ·exact BN hE ho hr
 ·exact BE ho hr
 ·exact BI hE ho hr
 ·exact BF hE ho hr
 ·exact EU hE ho pI hr
 ·exact zO hE ho hr
 ·exact AO ho hr
 ·exact AN ho hr
 ·exact AP hE ho hr
 ·exact qa hE xe (.inl ⟨rfl,ho⟩) hr
 ·exact qa hE xe (.inr ⟨rfl,ho⟩) hr
 ·rename_i c
  obtain ⟨YE,xs,ts⟩:=c
  simp only at hr
  split at hr
  ·exact yB hx ho hr
  ·exact BH hE ho hr
  ·cases hr
 ·cases hr
end
end
section
open Go.RowKit
def Fp.cat (T U:Fp):Fp:=⟨T.all || U.all,T.rs++U.rs,T.w || U.w,T.ws++U.ws⟩
theorem eA (T U:Fp) (i:Nat):touch (T.cat U) i=(touch T i || touch U i):=by
 unfold touch Fp.cat
 simp only [List.any_append]
 cases T.all<;>cases U.all<;>cases T.rs.any (Nat.beq (res i))<;>cases U.rs.any (Nat.beq (res i))<;>rfl
theorem lM {T U:Fp} {i:Nat} (h:wt (T.cat U) i=false):wt T i=false∧wt U i=false:=by
 have h:((T.w || U.w) && (T.ws++U.ws).any (Nat.beq (res i)))=false:=h
 show (T.w && T.ws.any (Nat.beq (res i)))=false∧(U.w && U.ws.any (Nat.beq (res i)))=false
 rw [List.any_append] at h
 generalize T.ws.any (Nat.beq (res i))=a at h ⊢
 generalize U.ws.any (Nat.beq (res i))=b at h ⊢
 generalize T.w=c at h ⊢
 generalize U.w=d at h ⊢
 revert h
 cases a<;>cases b<;>cases c<;>cases d<;>decide
theorem Fp.eE (T U V:Fp):(T.cat U).cat V=T.cat (U.cat V):=by
 unfold Fp.cat
 simp [Bool.or_assoc]
theorem Fp.kP (T:Fp):Fp.no.cat T=T:=by cases T;rfl
theorem Fp.kW (T:Fp):T.cat .no=T:=by cases T;simp [Fp.cat,Fp.no]
structure i_ (h h':H) (T:Fp):Prop where
 out:∀i,touch T i=false→(hp h').ob i=(hp h).ob i∧((hp h').fr i↔(hp h).fr i)
 rd:∀i,wt T i=false→(hp h').ob i=(hp h).ob i∧((hp h').fr i↔(hp h).fr i)
theorem i_.refl (h:H):i_ h h .no:=⟨fun _ _=>⟨rfl,Iff.rfl⟩,fun _ _=>⟨rfl,Iff.rfl⟩⟩
theorem i_.trans {h h1 h2:H} {T U:Fp} (a:i_ h h1 T) (b:i_ h1 h2 U):i_ h h2 (T.cat U) where
 out:=fun i hi=>by
  rw [eA,Bool.or_eq_false_iff] at hi
  have e1:=a.out i hi.1
  have e2:=b.out i hi.2
  exact ⟨e2.1.trans e1.1,e2.2.trans e1.2⟩
 rd:=fun i hi=>by
  obtain ⟨h1,h2⟩:=lM hi
  have e1:=a.rd i h1
  have e2:=b.rd i h2
  exact ⟨e2.1.trans e1.1,e2.2.trans e1.2⟩
theorem Agree.left {T U:Fp} {S S2:Hp} (h:Agree (T.cat U) S S2):Agree T S S2:=fun i hi=>h i (by rw [eA,hi];rfl)
theorem Agree.right {h h1:H} {T U:Fp} {S2:Hp} (f:i_ h h1 T) (k:Agree (T.cat U) (hp h) S2):Agree U (hp h1) (et T (hp h1) S2):=fun i hi=>by
 show (if touch T i=true then (hp h1).ob i else S2.ob i)=(hp h1).ob i∧((if touch T i=true then (hp h1).fr i else S2.fr i)↔(hp h1).fr i)
 cases ht:touch T i with
 | true=>exact ⟨if_pos rfl,by rw [if_pos rfl]⟩
 | false=>
  have e:=f.out i ht
  have k:=k i (by rw [eA,hi];simp)
  rw [if_neg (by simp),if_neg (by simp)]
  exact ⟨k.1.trans e.1.symm,k.2.trans e.2.symm⟩
theorem da {h1 h2:H} {T U:Fp} {S2:Hp} (f:i_ h1 h2 U):et U (hp h2) (et T (hp h1) S2)=et (T.cat U) (hp h2) S2:=by
 refine Hp.ext' (fun i=>?_) (fun i=>?_)
 ·show (if touch U i=true then (hp h2).ob i else (if touch T i=true then (hp h1).ob i else S2.ob i))=(if touch (T.cat U) i=true then (hp h2).ob i else S2.ob i)
  rw [eA]
  cases hu:touch U i with
  | true=>simp
  | false=>
   cases ht:touch T i with
   | true=>simp [(f.out i hu).1]
   | false=>simp
 ·show (if touch U i=true then (hp h2).fr i else (if touch T i=true then (hp h1).fr i else S2.fr i))↔(if touch (T.cat U) i=true then (hp h2).fr i else S2.fr i)
  rw [eA]
  cases hu:touch U i with
  | true=>simp
  | false=>
   cases ht:touch T i with
   | true=>simp [(f.out i hu).2]
   | false=>simp
theorem lD {h h':H} {T:Fp} (f:i_ h h' T):et T (hp h') (hp h)=hp h':=Hp.ext' (fun i=>by
 show (if touch T i=true then _ else _)=_
 split
 ·rfl
 ·rename_i hi;exact (f.out i (by simpa using hi)).1.symm) (fun i=>by
 show (if touch T i=true then _ else _)↔_
 split
 ·exact Iff.rfl
 ·rename_i hi;exact (f.out i (by simpa using hi)).2.symm)
theorem kM (S S2:Hp):et .no S S2=S2:=Hp.ext' (fun i=>rfl) (fun i=>Iff.rfl)
def cS (n:Nat) (F:Tr A) (ds:List Nat) (S:Hp):St:=⟨aP F.get,n,ds,S⟩
def sM (n:Nat) (F:Tr A):Operand→A
 | .tmp i=>bif Nat.blt i n then aP F.get i else .bR
 | .const v=>.v v
 | .global _=>.bR
 | .func f=>.fn f [] []
theorem rH {a b:Nat} (h:a<b):Nat.blt a b=true:=by simpa using h
theorem ou {a b:Nat} (h:¬a<b):Nat.blt a b=false:=by
 cases hx:Nat.blt a b with
 | false=>rfl
 | true=>exact absurd (aQ hx) h
theorem kN (n:Nat) (F:Tr A) (ds:List Nat) (S:Hp):sM n F=(cS n F ds S).pk 0:=by
 funext x
 cases x with
 | tmp i=>
  show (bif Nat.blt i n then aP F.get i else .bR)=(if i<n then aP F.get i else .bR)
  by_cases h:i<n
  ·rw [if_pos h,rH h];rfl
  ·rw [if_neg h,ou h];rfl
 | _=>rfl
def SU {β:Type} (v:Value) (k:Value→β):β:=match v with
 | .int a n=>k (.int a n)
 | .bool b=>k (.bool b)
 | v=>k v
theorem FH {β:Type} (v:Value) (k:Value→β):SU v k=k v:=by unfold SU;split<;>rfl
def Pb {β:Type} (p:A) (k:A→β):β:=match p with
 | .v x=>SU x (fun x=>k (.v x))
 | .ptr o off=>k (.ptr o off)
 | .tp x π=>k (.tp x π)
 | .tw x z=>k (.tw x z)
 | .tl t f l=>k (.tl t f l)
 | .op r o=>k (.op r o)
 | p=>k p
theorem yh {β:Type} (p:A) (k:A→β):Pb p k=k p:=by unfold Pb;split<;>first | exact FH _ _ | rfl
def FI {β:Type}:List A→(List A→β)→β
 | [],k=>k []
 | c::cs,k=>Pb c (fun c=>FI cs (fun cs=>k (c::cs)))
theorem mH {β:Type}:∀(l:List A) (k:List A→β),FI l k=k l
 | [],_=>rfl
 | c::cs,k=>by unfold FI;rw [yh];exact mH cs _
def GP {β:Type} (p:A) (k:A→β):β:=match p with
 | .agg cs=>FI cs (fun cs=>k (.agg cs))
 | .eJ cs=>FI cs (fun cs=>k (.eJ cs))
 | .fn f fi ca=>FI fi (fun fi=>FI ca (fun ca=>k (.fn f fi ca)))
 | p=>Pb p k
theorem sd {β:Type} (p:A) (k:A→β):GP p k=k p:=by
 unfold GP
 split
 ·exact mH _ _
 ·exact mH _ _
 ·rw [mH,mH]
 ·exact yh _ _
def od {β:Type} (F:Tr A) (d:Option Nat) (p:A) (k:Tr A→Option β):Option β:=match d with
 | none=>k F
 | some d=>GP p (fun p=>cO F d (some p) k)
def Kp (l:List Nat) (F F':Tr A):Prop:=∀i,i∉l→aP F'.get i=aP F.get i
theorem Kp.refl (l:List Nat) (F:Tr A):Kp l F F:=fun _ _=>rfl
theorem Kp.trans {l k m:List Nat} {F F1 F2:Tr A} (a:Kp l F F1) (b:Kp k F1 F2) (hl:∀i∈l,i∈m) (hk:∀i∈k,i∈m):Kp m F F2:=fun i hi=>(b i (fun h=>hi (hk i h))).trans (a i (fun h=>hi (hl i h)))
theorem Kp.mono {l m:List Nat} {F F1:Tr A} (a:Kp l F F1) (hl:∀i∈l,i∈m):Kp m F F1:=fun i hi=>a i (fun h=>hi (hl i h))
theorem Kp.of {l:List Nat} {n:Nat} {F F':Tr A} (h:∀ds S,cS n F' ds S=cS n F ds S):Kp l F F':=fun i _=>congrFun (congrArg St.t (h [] ⟨fun _=>none,fun _=>False⟩)) i
theorem lC {β:Type} {F:Tr A} {d:Option Nat} {p:A} {k:Tr A→Option β} {r:β} (h:od F d p k=some r):∃F',k F'=some r∧Kp d.toList F F'∧∀(n:Nat) (ds:List Nat) (S S':Hp),((cS n F ds S).put d p).to S'=cS n F' ds S':=by
 cases d with
 | none=>exact ⟨F,h,.refl _ F,fun n ds S S'=>rfl⟩
 | some d=>
  have h:GP p (fun p=>cO F d (some p) k)=some r:=h
  rw [sd] at h
  obtain ⟨_,F',k1,k2⟩:=aY h
  refine ⟨F',k1,fun i hi=>by
   simp only [aP,k2]
   rw [if_neg (fun e=>hi (by rw [e];exact .head _))],fun n ds S S'=>?_⟩
  have e:(fun i=>if i=d then p else aP F.get i)=aP F'.get:=by
   funext i
   simp only [aP,k2]
   by_cases hi:i=d
   ·rw [if_pos hi,if_pos hi]
   ·rw [if_neg hi,if_neg hi]
  simp only [St.put,St.to,cS,e]
def Bk {β:Type} (l0:List Oper) (n:Nat) (F:Tr A) (j:Nat) (want:Bool) (k:Tr A→Bool→Option β):Option β:=match (l0[j]?).bind (·.dst) with
 | some d=>match sM n F (.tmp d) with
  | .v (.bool b)=>br b (cO F d (some (.v (.bool true))) (fun F'=>k F' want)) (cO F d (some (.v (.bool false))) (fun F'=>k F' (!want)))
  | .un=>k F false
  | _=>none
 | none=>none
theorem sL {n:Nat} {F:Tr A} {d:Nat} {p:A} (h:sM n F (.tmp d)=p) (hp:p≠.bR):aP F.get d=p:=by
 have h:(bif Nat.blt d n then aP F.get d else .bR)=p:=h
 cases hb:Nat.blt d n with
 | true=>rw [hb] at h;exact h
 | false=>rw [hb] at h;exact absurd h.symm hp
theorem tg {β:Type} {l0:List Oper} {n:Nat} {F:Tr A} {j:Nat} {want:Bool} {k:Tr A→Bool→Option β} {r:β} (h:Bk l0 n F j want k=some r):∃F' b,k F' b=some r∧(∀ds S,cS n F' ds S=cS n F ds S)∧∀ds S,ir l0.toArray (cS n F ds S) j want=some b:=by
 unfold Bk at h
 split at h
 ·rename_i d hd
  have gv:∀(b:Bool) (ds:List Nat) (S:Hp),((match sM n F (.tmp d) with | .v (.bool b)=>some (b == want) | .un=>some false | _=>none):Option Bool)=some b→ir l0.toArray (cS n F ds S) j want=some b:=fun b ds S hb=>by
   unfold ir
   rw [List.getElem?_toArray,←kN,hd]
   exact hb
  split at h
  ·rename_i b hb
   have same:∀(F':Tr A) (c:Bool),b=c→F'.get=(fun m=>if m=d then some (.v (.bool c)) else F.get m)→∀ds S,cS n F' ds S=cS n F ds S:=fun F' c hc e ds S=>by
    have:aP F'.get=aP F.get:=by
     funext i
     by_cases hi:i=d
     ·subst hi
      rw [sL hb (by intro h;cases h),hc]
      unfold aP
      rw [e];simp
     ·unfold aP
      rw [e];simp [hi]
    unfold cS
    rw [this]
   rcases gh h with ⟨rfl,h1⟩ | ⟨rfl,h1⟩
   ·obtain ⟨_,F',k1,k2⟩:=aY h1
    exact ⟨F',want,k1,same F' true rfl k2,fun ds S=>gv _ ds S (by rw [hb];cases want<;>rfl)⟩
   ·obtain ⟨_,F',k1,k2⟩:=aY h1
    exact ⟨F',!want,k1,same F' false rfl k2,fun ds S=>gv _ ds S (by rw [hb];cases want<;>rfl)⟩
  ·rename_i hb
   exact ⟨F,false,h,fun ds S=>rfl,fun ds S=>gv _ ds S (by rw [hb])⟩
  ·cases h
 ·cases h
def AF (p:A):A:=match p with
 | .op r (some j)=>.tp (.cE r j) []
 | .op _ none=>.v (.pointer none)
 | .os r z (some j)=>.tw (.cE r j) z
 | .os _ _ none=>.e0
 | .om r (some j)=>.mp (.cE r j)
 | .om _ none=>.v (.map none)
 | p=>p
theorem AE {p:A} {g:G} {v:Value} (h:V g p v):V g (AF p) v:=by
 unfold AF
 split
 ·cases h with | op _ _ _ _ h1=>exact h1 _ rfl
 ·cases h with | op _ _ _ h0 _=>rw [h0 rfl];exact .v _
 ·cases h with | os _ _ _ _ _ h1=>exact h1 _ rfl
 ·cases h with | os _ _ _ _ h0 _=>exact h0 rfl
 ·cases h with | om _ _ _ _ h1=>exact h1 _ rfl
 ·cases h with | om _ _ _ h0 _=>rw [h0 rfl];exact .v _
 ·exact h
def opn (n:Nat) (F:Tr A) (l:List Nat) (x:Operand):A:=match x with
 | .tmp i=>bif l.any (Nat.beq i) then AF (sM n F (.tmp i)) else sM n F (.tmp i)
 | x=>sM n F x
theorem EP {n:Nat} {F:Tr A} {l:List Nat} {x:Operand} {g:G} {v:Value} (h:V g (sM n F x) v):V g (opn n F l x) v:=by
 cases x with
 | tmp i=>
  show V g (bif l.any (Nat.beq i) then AF (sM n F (.tmp i)) else sM n F (.tmp i)) v
  cases l.any (Nat.beq i) with
  | true=>exact AE h
  | false=>exact h
 | _=>exact h
def lS {β:Type}:List Nat→Tr A→(Tr A→Option β)→Option β
 | [],F,k=>k F
 | i::l,F,k=>match aP F.get i with
  | .op r v=>opt v (cO F i (some (.op r none)) (fun F=>lS l F k)) (fun j=>cO F i (some (.op r (some j))) (fun F=>lS l F k))
  | .os r z v=>opt v (cO F i (some (.os r z none)) (fun F=>lS l F k)) (fun j=>cO F i (some (.os r z (some j))) (fun F=>lS l F k))
  | .om r v=>opt v (cO F i (some (.om r none)) (fun F=>lS l F k)) (fun j=>cO F i (some (.om r (some j))) (fun F=>lS l F k))
  | _=>lS l F k
theorem nW {β:Type} {r:β}:∀(l:List Nat) (F:Tr A) (k:Tr A→Option β),lS l F k=some r→∃F',k F'=some r∧aP F'.get=aP F.get
 | [],F,k,h=>⟨F,h,rfl⟩
 | i::l,F,k,h=>by
  have same:∀(p:A),aP F.get i=p→cO F i (some p) (fun F=>lS l F k)=some r→∃F',k F'=some r∧aP F'.get=aP F.get:=fun p hp h=>by
   obtain ⟨_,F1,k1,k2⟩:=aY h
   obtain ⟨F2,k3,k4⟩:=nW l F1 k k1
   refine ⟨F2,k3,k4.trans ?_⟩
   funext m
   unfold aP at hp ⊢
   rw [k2]
   by_cases hm:m=i
   ·subst hm;simp only [if_true];exact hp.symm
   ·simp only [if_neg hm]
  unfold lS at h
  split at h
  ·rename_i q v hq
   rcases eg h with ⟨e,h1⟩ | ⟨j,e,h1⟩
   ·exact same _ (by rw [hq,e]) h1
   ·exact same _ (by rw [hq,e]) h1
  ·rename_i q z v hq
   rcases eg h with ⟨e,h1⟩ | ⟨j,e,h1⟩
   ·exact same _ (by rw [hq,e]) h1
   ·exact same _ (by rw [hq,e]) h1
  ·rename_i q v hq
   rcases eg h with ⟨e,h1⟩ | ⟨j,e,h1⟩
   ·exact same _ (by rw [hq,e]) h1
   ·exact same _ (by rw [hq,e]) h1
  ·exact nW l F k h
def mW (x:Operand):List Nat:=match x with
 | .tmp i=>[i]
 | _=>[]
def J8 (op:Op):List Nat:=match op with
 | .fieldAddr _ x _=>mW x
 | .indexAddr _ x _=>mW x
 | .load _ x=>mW x
 | .store _ x _=>mW x
 | .slice _ x _ _ _=>mW x
 | .lookup _ x _ _=>mW x
 | .mapUpdate _ x _ _=>mW x
 | .insert _ x _ _=>mW x
 | .nilCheck x=>mW x
 | .call c=>match c.callee with
  | .builtin _=>c.args.toList.flatMap mW
  | _=>[]
 | _=>[]
section
variable {P:Program} {E:Env} {cx:Cx} {n:Nat} {β:Type} {r:β}
def ER (E:Env) (cx:Cx) (n:Nat) (op:Op) (F:Tr A) (h:H) (K:Tr A→A→H→Fp→Option β):Option β:=
 lS (J8 op) F (fun F'=>Qi E cx op (opn n F' (J8 op)) h (fun pv h' T=>K F' pv h' T))
theorem w7 (hE:bt P E) (hx:gD P cx) {o:Oper} {F:Tr A} {h:H} {K:Tr A→A→H→Fp→Option β} (hr:ER E cx n o.op F h K=some r) :
  ∃F',(∀ds S,cS n F' ds S=cS n F ds S)∧∃pv h' T,K F' pv h' T=some r∧Step P o (sM n F') h h' T pv:=by
 obtain ⟨F',h1,h2⟩:=nW _ _ _ hr
 obtain ⟨pv,h',T,k1,k2⟩:=ES hE hx h1
 refine ⟨F',fun ds S=>by unfold cS;rw [h2],pv,h',T,k1,k2.out,k2.rd,fun S2 hA r g w a next Q hI hv=>k2.ok S2 hA r g w a next Q hI (fun x hx=>EP (hv x hx))⟩
def ly (l:List Oper):List Nat:=l.flatMap fun o=>o.dst.toList
def pO (E:Env) (cx:Cx) (n:Nat) (l0:List Oper):List Oper→Tr A→H→Fp→(Tr A→H→Fp→Option β)→Option β
 | [],F,h,U,K=>K F h U
 | o::l,F,h,U,K=>match o.guard with
  | none=>ER E cx n o.op F h (fun F pv h' T=>od F o.dst pv (fun F'=>pO E cx n l0 l F' h' (U.cat T) K))
  | some (j,want)=>Bk l0 n F j want (fun F b=>bif b then ER E cx n o.op F h (fun F pv h' T=>od F o.dst pv (fun F'=>pO E cx n l0 l F' h' (U.cat T) K)) else od F o.dst .un (fun F'=>pO E cx n l0 l F' h U K))
def yU (F:Tr A) (h:H) (F':Tr A) (h':H) (n:Nat) (T:Fp) (W:(Exit→St→Prop)→St→Prop) (e:Exit) (ds eN:List Nat):Prop:=
 ∀S2,Agree T (hp h) S2→∀Q:Exit→St→Prop,Q e (cS n F' eN (et T (hp h') S2))→W Q (cS n F ds S2)
theorem n5 (hE:bt P E) (hx:gD P cx) {l0:List Oper}:∀(l:List Oper) (F:Tr A) (h:H) (U:Fp) (K:Tr A→H→Fp→Option β),pO E cx n l0 l F h U K=some r →
  ∃F' h' T,K F' h' (U.cat T)=some r∧Kp (ly l) F F'∧i_ h h' T∧∀ro S0 g0 w0 ds,yU F h F' h' n T (fun Q st=>wD P ro S0 g0 w0 l0.toArray Q l st) .normal ds ds
 | [],F,h,U,K,hr=>⟨F,h,.no,by rw [Fp.kW];exact hr,.refl _ F,.refl h,fun ro S0 g0 w0 ds S2 hA Q hq=>by
   rw [kM] at hq;exact Ad hq⟩
 | o::l,F,h,U,K,hr=>by
  have yes:∀(F:Tr A),ER E cx n o.op F h (fun F pv h' T=>od F o.dst pv (fun F'=>pO E cx n l0 l F' h' (U.cat T) K))=some r →
    (∀ds S,o.guard=none∨∃j want,o.guard=some (j,want)∧ir l0.toArray (cS n F ds S) j want=some true) →
    ∃F' h' T,K F' h' (U.cat T)=some r∧Kp (ly (o::l)) F F'∧i_ h h' T∧∀ro S0 g0 w0 ds,yU F h F' h' n T (fun Q st=>wD P ro S0 g0 w0 l0.toArray Q (o::l) st) .normal ds ds:=fun F hr hg=>by
   obtain ⟨F0,e0,pv,h1,T1,k1,k2⟩:=w7 hE hx hr
   obtain ⟨F1,k3,E1,k4⟩:=lC k1
   obtain ⟨F2,h2,T2,k5,Qp,k6,k7⟩:=n5 hE hx l F1 h1 (U.cat T1) K k3
   have f1:i_ h h1 T1:=⟨k2.out,k2.rd⟩
   have hg:∀ds S,o.guard=none∨∃j want,o.guard=some (j,want)∧ir l0.toArray (cS n F0 ds S) j want=some true:=fun ds S=>by rw [e0];exact hg ds S
   refine ⟨F2,h2,T1.cat T2,by rw [←Fp.eE];exact k5,(Kp.of (l:=[]) e0).trans (m:=ly (o::l)) (E1.trans Qp (fun i hi=>zQ _ hi) (fun i hi=>zS _ hi)) (fun i hi=>by cases hi) (fun i hi=>hi),f1.trans k6,fun ro S0 g0 w0 ds S2 hA Q hq=>?_⟩
   rw [←e0]
   have pq:vr P o ((cS n F0 ds S2).pk 0) (cS n F0 ds S2).S (et T1 (hp h1) S2) pv:=by rw [←kN];exact k2.ok S2 hA.left
   have DO:wD P ro S0 g0 w0 l0.toArray Q l (((cS n F0 ds S2).put o.dst pv).to (et T1 (hp h1) S2)):=by
    rw [k4]
    refine k7 ro S0 g0 w0 ds _ (Agree.right f1 hA) Q ?_
    rw [da k6];exact hq
   rcases hg ds S2 with hg | ⟨j,want,hg,hv⟩
   ·exact pQ 0 hg pq DO
   ·exact n7 0 hg hv pq DO
  unfold pO at hr
  split at hr
  ·rename_i hg
   exact yes F hr (fun _ _=>.inl hg)
  ·rename_i j want hg
   obtain ⟨F1,b,k1,k2,k3⟩:=tg hr
   cases b with
   | true=>
    simp only [cond_true] at k1
    obtain ⟨F',h',T,q1,qp,q2,q3⟩:=yes F1 k1 (fun ds S=>.inr ⟨j,want,hg,by rw [k2];exact k3 ds S⟩)
    refine ⟨F',h',T,q1,(Kp.of (l:=[]) k2).trans qp (fun i hi=>by cases hi) (fun i hi=>hi),q2,fun ro S0 g0 w0 ds S2 hA Q hq=>?_⟩
    rw [←k2]
    exact q3 ro S0 g0 w0 ds S2 hA Q hq
   | false=>
    simp only [cond_false] at k1
    obtain ⟨F2,k4,E1,k5⟩:=lC k1
    obtain ⟨F',h',T,q1,qp,q2,q3⟩:=n5 hE hx l F2 h U K k4
    refine ⟨F',h',T,q1,(Kp.of (l:=[]) k2).trans (m:=ly (o::l)) (E1.trans qp (fun i hi=>zQ _ hi) (fun i hi=>zS _ hi)) (fun i hi=>by cases hi) (fun i hi=>hi),q2,fun ro S0 g0 w0 ds S2 hA Q hq=>?_⟩
    have:=q3 ro S0 g0 w0 ds S2 hA Q hq
    rw [←k5 n ds S2 S2] at this
    rw [←k2]
    refine pP hg (by rw [k2];exact k3 ds S2) ?_
    rw [←n9 (st:=cS n F1 ds S2)]
    exact this
end
end
section
open Go.RowKit
def ev (kp:Nat→Bool) (i:Nat):Bool:=!(Nat.blt i 16777216) && kp (hJ i)
def G.gx (kp:Nat→Bool) (g:G):G:=⟨fun i=>if ev kp i=true then g.bc i else none,g.mem,g.lp⟩
theorem oC (kp:Nat→Bool) (g:G):Le (g.gx kp) g:=⟨fun o p h=>(by
 have h:(if ev kp o=true then g.bc o else none)=some p:=h
 split at h
 ·exact h
 ·cases h),fun _ _ _ h=>h,fun _ _ h=>h⟩
theorem eY {kp:Nat→Bool} {g:G} {i:Nat} (h:ev kp i=true):(g.gx kp).bc i=g.bc i:=if_pos h
theorem xr {kp:Nat→Bool} {g:G} {i:Nat} (h:ev kp i=false):(g.gx kp).bc i=none:=if_neg (by rw [h];simp)
def VK (kp:Nat→Bool) (c:A):Prop:=∀g v,V g c v→V (g.gx kp) c v
def GW (kp:Nat→Bool):Ob→Prop
 | .cells cs=>∀c∈cs,VK kp c
 | .bV (.map es)=>∀e∈es,VK kp e.1∧VK kp e.2
 | .bV _=>False
def G.join (kp:Nat→Bool) (g0 g:G):G:=⟨fun i=>if ev kp i=true then g0.bc i else g.bc i,g0.mem,g0.lp⟩
theorem uP (kp:Nat→Bool) (g0 g:G):(G.join kp g0 g).gx kp=g0.gx kp:=by
 unfold G.join G.gx
 congr 1
 funext i
 by_cases h:ev kp i=true
 ·simp only [if_pos h]
 ·simp only [if_neg h]
theorem VK.join {kp:Nat→Bool} {c:A} (h:VK kp c) {g0 g:G} {v:Value} (hv:V g0 c v):V (G.join kp g0 g) c v:=by
 have:=h g0 v hv
 rw [←uP kp g0 g] at this
 exact this.mono (oC kp _)
def Hp.join (kp:Nat→Bool) (S0 S:Hp):Hp:=⟨fun i=>if ev kp i=true then S0.ob i else S.ob i,fun i=>if ev kp i=true then S0.fr i else S.fr i⟩
theorem iE.conv {g g':G} {w w':World} {b t:Nat} {cs:List A} (h:iE g w b t cs) (hw:w'.heap[b]?=w.heap[b]?) (hc:∀c∈cs,∀v,V g c v→V g' c v):iE g' w' b t cs:=by
 obtain ⟨cur,ty,k2,kD,k3⟩:=h
 exact ⟨cur,ty,hw.trans k2,kD,k3.1,fun j c x e1 e2=>⟨hc c (zG e1) _ (k3.2 j c x e1 e2).1,(k3.2 j c x e1 e2).2⟩⟩
theorem x_ {kp:Nat→Bool} {g:G} {S S0:Hp} {w:World} (hI:Inv g S w) (h0:∀i,ev kp i=false→S0.ob i=none) (h1:∀i,ev kp i=true→S.ob i=S0.ob i∧(S.fr i↔S0.fr i)) (hk:∀i x,S0.ob i=some x→GW kp x):Inv (g.gx kp) S0 w:=by
 have kn:∀{i x},S0.ob i=some x→ev kp i=true∧S.ob i=some x:=fun {i x} h=>by
  cases dR:ev kp i with
  | false=>rw [h0 i dR] at h;cases h
  | true=>exact ⟨rfl,(h1 i dR).1.trans h⟩
 have sub:=(oC kp g).bc
 refine ⟨fun o cs h=>?_,fun o x h=>?_,fun o h=>?_,fun o b s h=>hI.lt o b s (sub _ _ h),fun o o' x x' b s s' e1 e2 e3 e4=>hI.inj o o' x x' b s s' (kn e1).2 (kn e2).2 (sub _ _ e3) (sub _ _ e4),hI.mem,fun o b s i x e1 e2=>hI.gw o b s i x (kn e1).2 (sub _ _ e2),hI.lp⟩
 ·obtain ⟨q1,q2⟩:=kn h
  rw [eY q1]
  rcases hI.cells o cs q2 with ⟨k1,k2⟩ | ⟨b,t,k1,k2⟩
  ·exact .inl ⟨k1,k2⟩
  ·exact .inr ⟨b,t,k1,k2.conv rfl (fun c hc v hv=>hk o _ h c hc g v hv)⟩
 ·obtain ⟨q1,q2⟩:=kn h
  obtain ⟨b,s,ob,k1,k2,k3⟩:=hI.bV o x q2
  refine ⟨b,s,ob,by rw [eY q1];exact k1,k2,?_⟩
  have hx:=hk o _ h
  cases x with
  | map es=>
   obtain ⟨eU,clock,e1,e2,e3⟩:=k3
   exact ⟨eU,clock,e1,e2,fun i e q a1 a2=>let hq:=hx q (zG a2);⟨hq.1 g _ (e3 i e q a1 a2).1,hq.2 g _ (e3 i e q a1 a2).2⟩⟩
  | _=>exact hx.elim
 ·cases dR:ev kp o with
  | false=>exact xr dR
  | true=>rw [eY dR];exact hI.fresh o ((h1 o dR).2.2 h)
theorem uZ {kp:Nat→Bool} {g xY:G} {S S0 q7:Hp} {w w':World} (hI:Inv g S w) (h0:∀i,ev kp i=false→S0.ob i=none) (h1:∀i,ev kp i=true→S.ob i=S0.ob i∧(S.fr i↔S0.fr i))
  (hk:∀i x,ev kp i=true→q7.ob i=some x→GW kp x) (zl:Inv xY q7 w') (x0:Ext S0 (g.gx kp) w q7 xY w') :
  Inv (G.join kp xY g) (Hp.join kp q7 S) w'∧Ext S g w (Hp.join kp q7 S) (G.join kp xY g) w':=by
 have ow:∀{k},hB S0 (g.gx kp) k→∃o s x,ev kp o=true∧S.ob o=some x∧g.bc o=some (some k,s):=fun {k} ⟨o,s,x,e1,e2⟩=>by
  cases dR:ev kp o with
  | false=>rw [h0 o dR] at e1;cases e1
  | true=>exact ⟨o,s,x,dR,(h1 o dR).1.trans e1,(oC kp g).bc _ _ e2⟩
 have EN:∀{k},hB S0 (g.gx kp) k→hB S g k:=fun {k} h=>by
  obtain ⟨o,s,x,_,e1,e2⟩:=ow h
  exact ⟨o,s,x,e1,e2⟩
 have other:∀{o x b s},ev kp o=false→S.ob o=some x→g.bc o=some (some b,s)→¬hB S0 (g.gx kp) b:=fun {o x b s} hn e1 e2 h=>by
  obtain ⟨o',s',x',k1,k2,k3⟩:=ow h
  have:=hI.inj o o' x x' b s s' e1 k2 e2 k3
  rw [this,k1] at hn;cases hn
 have ji:∀{i},ev kp i=true→(G.join kp xY g).bc i=xY.bc i∧(Hp.join kp q7 S).ob i=q7.ob i∧((Hp.join kp q7 S).fr i↔q7.fr i):=fun {i} h=>⟨if_pos h,if_pos h,by show (if ev kp i=true then _ else _)↔_;rw [if_pos h]⟩
 have jo:∀{i},ev kp i=false→(G.join kp xY g).bc i=g.bc i∧(Hp.join kp q7 S).ob i=S.ob i∧((Hp.join kp q7 S).fr i↔S.fr i):=fun {i} h=>by
  have h':¬ev kp i=true:=by rw [h];simp
  exact ⟨if_neg h',if_neg h',by show (if ev kp i=true then _ else _)↔_;rw [if_neg h']⟩
 have le:Le g (G.join kp xY g):=⟨fun o p e=>(by
  cases dR:ev kp o with
  | true=>rw [(ji dR).1];exact x0.le.bc o p (by rw [eY dR];exact e)
  | false=>rw [(jo dR).1];exact e),x0.le.mem,x0.le.lp⟩
 have heap:∀{o x b s},ev kp o=false→S.ob o=some x→g.bc o=some (some b,s)→w'.heap[b]?=w.heap[b]?:=fun {o x b s} hn e1 e2=>x0.frame b (hI.lt o b s e2) (other hn e1 e2)
 refine ⟨⟨fun o cs h=>?_,fun o x h=>?_,fun o h=>?_,fun o b s h=>?_,fun o o' x x' b s s' e1 e2 e3 e4=>?_,zl.mem,fun o b s i x e1 e2=>?_,zl.lp⟩,⟨le,x0.os,x0.tape,x0.output,x0.size,fun k XO Q4=>x0.frame k XO (fun h=>Q4 (EN h)),fun k h=>?_,fun o p h=>?_,fun o h=>?_,fun b i x h=>?_,fun b l h=>x0.lpo b l h⟩⟩
 ·cases dR:ev kp o with
  | true=>
   rw [(ji dR).2.1] at h
   rw [(ji dR).1]
   rcases zl.cells o cs h with ⟨k1,k2⟩ | ⟨b,t,k1,k2⟩
   ·exact .inl ⟨k1,k2⟩
   ·exact .inr ⟨b,t,k1,k2.conv rfl (fun c hc v hv=>(hk o _ dR h c hc).join hv)⟩
  | false=>
   rw [(jo dR).2.1] at h
   rw [(jo dR).1]
   rcases hI.cells o cs h with ⟨k1,k2⟩ | ⟨b,t,k1,k2⟩
   ·exact .inl ⟨k1,k2⟩
   ·exact .inr ⟨b,t,k1,k2.conv (heap dR h k1) (fun c hc v hv=>hv.mono le)⟩
 ·cases dR:ev kp o with
  | true=>
   rw [(ji dR).2.1] at h
   rw [(ji dR).1]
   obtain ⟨b,s,ob,k1,k2,k3⟩:=zl.bV o x h
   refine ⟨b,s,ob,k1,k2,?_⟩
   have hx:=hk o _ dR h
   cases x with
   | map es=>
    obtain ⟨eU,clock,e1,e2,e3⟩:=k3
    exact ⟨eU,clock,e1,e2,fun i e q a1 a2=>let hq:=hx q (zG a2);⟨hq.1.join (e3 i e q a1 a2).1,hq.2.join (e3 i e q a1 a2).2⟩⟩
   | _=>exact hx.elim
  | false=>
   rw [(jo dR).2.1] at h
   rw [(jo dR).1]
   obtain ⟨b,s,ob,k1,k2,k3⟩:=hI.bV o x h
   exact ⟨b,s,ob,k1,(heap dR h k1).trans k2,k3.mono le⟩
 ·cases dR:ev kp o with
  | true=>rw [(ji dR).1];exact zl.fresh o ((ji dR).2.2.1 h)
  | false=>rw [(jo dR).1];exact hI.fresh o ((jo dR).2.2.1 h)
 ·cases dR:ev kp o with
  | true=>rw [(ji dR).1] at h;exact zl.lt o b s h
  | false=>rw [(jo dR).1] at h;exact Nat.lt_of_lt_of_le (hI.lt o b s h) x0.size
 ·have mixed:∀{o o' x x' b s s'},ev kp o=true→ev kp o'=false→q7.ob o=some x→S.ob o'=some x'→xY.bc o=some (some b,s)→g.bc o'=some (some b,s')→False:=fun {o o' x x' b s s'} h1 h2 e1 e2 e3 e4=>by
   rcases x0.own b ⟨o,s,x,e1,e3⟩ with h | h
   ·exact other h2 e2 e4 h
   ·have:=hI.lt o' b s' e4;omega
  cases dR:ev kp o with
  | true=>
   rw [(ji dR).2.1] at e1
   rw [(ji dR).1] at e3
   cases mz:ev kp o' with
   | true=>
    rw [(ji mz).2.1] at e2
    rw [(ji mz).1] at e4
    exact zl.inj o o' x x' b s s' e1 e2 e3 e4
   | false=>
    rw [(jo mz).2.1] at e2
    rw [(jo mz).1] at e4
    exact (mixed dR mz e1 e2 e3 e4).elim
  | false=>
   rw [(jo dR).2.1] at e1
   rw [(jo dR).1] at e3
   cases mz:ev kp o' with
   | true=>
    rw [(ji mz).2.1] at e2
    rw [(ji mz).1] at e4
    exact (mixed mz dR e2 e1 e4 e3).elim
   | false=>
    rw [(jo mz).2.1] at e2
    rw [(jo mz).1] at e4
    exact hI.inj o o' x x' b s s' e1 e2 e3 e4
 ·cases dR:ev kp o with
  | true=>
   rw [(ji dR).2.1] at e1
   rw [(ji dR).1] at e2
   exact zl.gw o b s i x e1 e2
  | false=>
   rw [(jo dR).2.1] at e1
   rw [(jo dR).1] at e2
   show xY.mem b i=none
   cases hm:xY.mem b i with
   | none=>rfl
   | some y=>
    rcases x0.ml b i y hm with h | h | h
    ·have:=hI.gw o b s i x e1 e2
     have h:g.mem b i=some y:=h
     rw [this] at h;cases h
    ·exact absurd h (other dR e1 e2)
    ·have:=hI.lt o b s e2;omega
 ·obtain ⟨o,s,x,e1,e2⟩:=h
  cases dR:ev kp o with
  | true=>
   rw [(ji dR).2.1] at e1
   rw [(ji dR).1] at e2
   rcases x0.own k ⟨o,s,x,e1,e2⟩ with h | h
   ·exact .inl (EN h)
   ·exact .inr h
  | false=>
   rw [(jo dR).2.1] at e1
   rw [(jo dR).1] at e2
   exact .inl ⟨o,s,x,e1,e2⟩
 ·cases dR:ev kp o with
  | true=>
   rw [(ji dR).1] at h
   rcases x0.Bx o p h with h | ⟨h,k⟩
   ·rw [eY dR] at h;exact .inl h
   ·rw [eY dR] at h;exact .inr ⟨h,(h1 o dR).2.2 k⟩
  | false=>rw [(jo dR).1] at h;exact .inl h
 ·cases dR:ev kp o with
  | true=>exact (h1 o dR).2.2 (x0.fr o ((ji dR).2.2.1 h))
  | false=>exact (jo dR).2.2.1 h
 ·rcases x0.ml b i x h with h | h | h
  ·exact .inl h
  ·exact .inr (.inl (EN h))
  ·exact .inr (.inr h)
end
section
open Go.RowKit
theorem PC.frame {P:Program} {f:FuncId} {kp:Nat→Bool} {aa:List A} {S S0 q7:Hp} {r:A} (h0:∀i,ev kp i=false→S0.ob i=none) (h1:∀i,ev kp i=true→S.ob i=S0.ob i∧(S.fr i↔S0.fr i)) (hk:∀i x,S0.ob i=some x→GW kp x)
  (GK:∀i x,ev kp i=true→q7.ob i=some x→GW kp x) (ha:∀a∈aa,VK kp a) (hr:VK kp r) (h:PC P f aa S0 q7 r):PC P f aa S (Hp.join kp q7 S) r:=fun g w vs hI hl hv=>by
 refine (h (g.gx kp) w vs (x_ hI h0 h1 hk) hl (fun i p v e1 e2=>ha p (zG e1) g v (hv i p v e1 e2))).mono ?_
 rintro e w' ⟨v,g',rfl,k1,k2,k3⟩
 obtain ⟨q1,q2⟩:=uZ hI h0 h1 GK k2 k3
 exact ⟨v,_,rfl,hr.join k1,q1,q2⟩
def kR (kp:Nat→Bool):Ty→Bool
 | .int _=>true
 | .bool=>true
 | .unit=>true
 | .pair a b=>kR kp a && kR kp b
 | .arr _ t=>kR kp t
 | .aF _=>true
 | .ptr r=>Nat.blt r 64 && kp r
 | .b6 r=>Nat.blt r 64 && kp r
 | .fj r _=>Nat.blt r 64 && kp r
 | .kB r _=>Nat.blt r 64 && kp r
 | .mp r=>Nat.blt r 64 && kp r
theorem oB {kp:Nat→Bool} {r j:Nat} (h:r<64) (hk:kp r=true):ev kp (cV r j)=true:=by
  have h1:=jz r j
  have h2:=gH (j:=j) h
  generalize cV r j=i at h1 h2
  unfold ev
  rw [h2,hk,Bool.and_true]
  cases hx:Nat.blt i 16777216 with
  | false=>rfl
  | true=>
            have:i<16777216:=by simpa using hx
            unfold bS at h1;omega
theorem VK.v {kp:Nat→Bool} (x:Value):VK kp (.v x):=fun g v h=>by cases h;exact .v _
theorem VK.tp {kp:Nat→Bool} {r j:Nat} (h:r<64) (hk:kp r=true):VK kp (.tp (.cE r j) []):=fun g v hv=>by
 cases hv with
 | tp _ _ b s bo hp=>exact .tp _ _ b s (by rw [show (Ref.cE r j).id=cV r j from rfl,eY (oB h hk)];exact bo) hp
theorem VK.tw {kp:Nat→Bool} {r j z:Nat} (h:r<64) (hk:kp r=true):VK kp (.tw (.cE r j) z):=fun g v hv=>by
 have e:(g.gx kp).bc (Ref.cE r j).id=g.bc (Ref.cE r j).id:=eY (oB h hk)
 cases hv with
 | ni _ _ ad bo=>exact .ni _ _ ad (by rw [e];exact bo)
 | tw _ _ n b cap t bo hn hx hp d hd=>exact .tw _ _ n b cap t (by rw [e];exact bo) hn hx hp d hd
theorem VK.mp {kp:Nat→Bool} {r j:Nat} (h:r<64) (hk:kp r=true):VK kp (.mp (.cE r j)):=fun g v hv=>by
 cases hv with
 | mp _ b s bo=>exact .mp _ b s (by rw [show (Ref.cE r j).id=cV r j from rfl,eY (oB h hk)];exact bo)
theorem VK.tl {kp:Nat→Bool} {t:Ty} {f:Bool} {l:List t.T}:VK kp (.tl t f l):=fun g v hv=>by
 cases hv with
 | tl _ _ _ _ hd=>exact .tl t f l v hd
theorem qn {α β:Type} {f:α→List β} {p:β→Prop} (h:∀x,∀c∈f x,p c) (l:List α):∀c∈l.flatMap f,p c:=fun c hc=>by
 obtain ⟨x,_,hx⟩:=List.mem_flatMap.1 hc
 exact h x c hx
theorem jE {kp:Nat→Bool}:∀(t:Ty) (x:t.T),kR kp t=true→∀c∈aB t x,VK kp c
 | .int k,x,_,c,hc=>by rcases zF.1 hc with rfl;exact .v _
 | .bool,x,_,c,hc=>by rcases zF.1 hc with rfl;exact .v _
 | .unit,x,_,c,hc=>by cases hc
 | .pair a b,x,h,c,hc=>by
  simp only [kR,zC] at h
  rcases zX.1 hc with hc | hc
  ·exact jE a x.1 h.1 c hc
  ·exact jE b x.2 h.2 c hc
 | .arr n t,l,h,c,hc=>qn (f:=fun i=>aB t (nth t.bT l i)) (fun i c hc=>jE t _ h c hc) _ c hc
 | .aF t,l,_,c,hc=>by rcases zF.1 hc with rfl;exact .tl
 | .ptr r,x,h,c,hc=>by
  simp only [kR,zC] at h
  rcases zF.1 hc with rfl
  intro g v hv
  cases hv with
  | op _ _ _ h0 h1=>exact .op r x v h0 (fun j e=>VK.tp (aQ h.1) h.2 g v (h1 j e))
 | .b6 r,j,h,c,hc=>by
  simp only [kR,zC] at h
  rcases zF.1 hc with rfl
  exact .tp (aQ h.1) h.2
 | .fj r z,x,h,c,hc=>by
  simp only [kR,zC] at h
  rcases zF.1 hc with rfl
  intro g v hv
  cases hv with
  | os _ _ _ _ h0 h1=>exact .os r z x v (fun e=>by cases h0 e with | e0 ad=>exact .e0 ad) (fun j e=>VK.tw (aQ h.1) h.2 g v (h1 j e))
 | .kB r z,j,h,c,hc=>by
  simp only [kR,zC] at h
  rcases zF.1 hc with rfl
  exact .tw (aQ h.1) h.2
 | .mp r,x,h,c,hc=>by
  simp only [kR,zC] at h
  rcases zF.1 hc with rfl
  intro g v hv
  cases hv with
  | om _ _ _ h0 h1=>exact .om r x v h0 (fun j e=>VK.mp (aQ h.1) h.2 g v (h1 j e))
theorem VK.agg {kp:Nat→Bool} {cs:List A} (h:∀c∈cs,VK kp c):VK kp (.agg cs):=fun g v hv=>by
 cases hv with
 | agg _ vs hl h1 h2=>exact .agg cs vs hl h1 (fun i c x e1 e2=>h c (zG e1) g x (h2 i c x e1 e2))
theorem VK.eJ {kp:Nat→Bool} {cs:List A} (h:∀c∈cs,VK kp c):VK kp (.eJ cs):=fun g v hv=>by
 cases hv with
 | eJ _ vs hl h2=>exact .eJ cs vs hl (fun i c x e1 e2=>h c (zG e1) g x (h2 i c x e1 e2))
theorem VK.bR {kp:Nat→Bool}:VK kp .bR:=fun g v _=>.bR v
theorem VK.pack {kp:Nat→Bool} {a:Bool} {t:Ty} (x:t.T) (h:kR kp t=true):VK kp (bq a t x):=by
 unfold bq
 cases a with
 | true=>exact .agg (jE t x h)
 | false=>
  simp only [cond_false]
  split
  ·rename_i c hc
   exact jE t x h c (by rw [hc];exact .head _)
  ·exact .bR
def RK.kR (kp:Nat→Bool):RK→Bool
 | .box t=>Bm.kR kp t
 | .row t=>Bm.kR kp t
 | .map _ tk _ tv=>Bm.kR kp tk && Bm.kR kp tv
theorem ue {kp:Nat→Bool} {k:RK} {c:k.T} {j:Nat} {x:Ob} (hk:k.kR kp=true) (h:cn k c j=some x):GW kp x:=by
 cases k with
 | box t=>
  have h:(match gy (α:=t.T) c j with | some x=>some (Ob.cells (aB t x)) | none=>none)=some x:=h
  split at h
  ·cases h;exact jE t _ hk
  ·cases h
 | row t=>
  have h:(match gy (α:=Option (List t.T)) c j with | some (some l)=>some (Ob.cells (l.flatMap (aB t))) | _=>none)=some x:=h
  split at h
  ·cases h;exact qn (fun y c hc=>jE t y hk c hc) _
  ·cases h
 | map ka tk va tv=>
  have h:(match gy (α:=List (tk.T×tv.T)) c j with | some es=>some (Ob.bV (.map (fN ka tk va tv es))) | none=>none)=some x:=h
  simp only [RK.kR,zC] at hk
  split at h
  ·cases h
   intro e he
   obtain ⟨y,_,rfl⟩:=List.mem_map.1 he
   exact ⟨.pack _ hk.1,.pack _ hk.2⟩
  ·cases h
end
section
open Go.RowKit
deriving instance DecidableEq for RK
def rz:List A→A
 | [p]=>p
 | ps=>.eJ ps
structure ck where
 ps:List (Bool×Ty)
 rs:List (Bool×Ty)
 rg:List (Nat×RK)
 wg:List (Nat×RK)
def fL:List (Bool×Ty)→Type
 | []=>Unit
 | p::l=>p.2.T×fL l
def iC:(l:List (Bool×Ty))→fL l→List A
 | [],_=>[]
 | p::l,x=>bq p.1 p.2 x.1::iC l x.2
def lK:List (Nat×RK)→Type
 | []=>Unit
 | p::l=>p.2.T×lK l
def b9:(l:List (Nat×RK))→lK l→List Rg
 | [],_=>[]
 | p::l,x=>⟨p.1,p.2,x.1⟩::b9 l x.2
def h0 (rl wl:List (Nat×RK)) (c:lK rl) (d:lK wl):H:=⟨.nil,0,b9 wl d++b9 rl c,[]⟩
def Eh:(l:List (Bool×Ty))→List A→Option (fL l)
 | [],[]=>some ()
 | p::l,a::aa=>match gu p.1 p.2 a,Eh l aa with
  | some x,some y=>some (x,y)
  | _,_=>none
 | _,_=>none
theorem nT:∀(l:List (Bool×Ty)) (aa:List A) (x:fL l),Eh l aa=some x→aa.length=(iC l x).length∧∀(i:Nat) (a b:A),aa[i]?=some a→(iC l x)[i]?=some b→∀g v,V g a v→V g b v
 | [],[],x,_=>⟨rfl,fun i a b h=>by simp at h⟩
 | p::l,a::aa,x,h=>by
  simp only [Eh] at h
  split at h
  ·rename_i y z h1 h2
   cases h
   obtain ⟨k1,k2⟩:=nT l aa z h2
   refine ⟨congrArg Nat.succ k1,fun i a' b e1 e2=>?_⟩
   cases i with
   | zero=>
    have e1:a=a':=Option.some.inj e1
    have e2:bq p.1 p.2 y=b:=Option.some.inj e2
    subst e1 e2
    exact fun g v hv=>fl h1 hv
   | succ i=>exact k2 i a' b e1 e2
  ·cases h
 | [],_::_,_,h=>by cases h
 | _::_,[],_,h=>by cases h
def D_ (a b:RK) (c:a.T):Option b.T:=if h:a=b then some (h▸c) else none
def b5 (l:List (Nat×RK)) (r:Nat):Bool:=l.any fun p=>Nat.beq p.1 r
def rY:(l:List (Nat×RK))→List Rg→Option (lK l)
 | [],_=>some ()
 | p::l,rg=>match a7 rg p.1,rY l rg with
  | some ⟨_,k,c⟩,some y=>match D_ k p.2 c with
   | some x=>some (x,y)
   | none=>none
  | _,_=>none
theorem sE:∀{rg:List Rg} {r:Nat} {x:Rg},a7 rg r=some x→x.r=r
 | y::l,r,x,h=>by
  unfold a7 at h
  cases hy:Nat.beq y.r r with
  | true=>rw [hy] at h;cases h;exact beq_eq hy
  | false=>rw [hy] at h;exact sE h
theorem cq:∀(l:List (Nat×RK)) (c:lK l) (r:Nat),b5 l r=false→a7 (b9 l c) r=none
 | [],_,_,_=>rfl
 | p::l,c,r,h=>by
  have h:(Nat.beq p.1 r || b5 l r)=false:=h
  rw [Bool.or_eq_false_iff] at h
  show (bif Nat.beq p.1 r then _ else _)=_
  rw [h.1]
  exact cq l c.2 r h.2
theorem eT:∀(l:List (Nat×RK)) (c:lK l) (r:Nat),b5 l r=true→∃x,a7 (b9 l c) r=some x
 | p::l,c,r,h=>by
  show ∃x,(bif Nat.beq p.1 r then some (⟨p.1,p.2,c.1⟩:Rg) else a7 (b9 l c.2) r)=some x
  cases hq:Nat.beq p.1 r with
  | true=>exact ⟨_,rfl⟩
  | false=>
   have h:(Nat.beq p.1 r || b5 l r)=true:=h
   rw [hq,Bool.false_or] at h
   exact eT l c.2 r h
theorem dF:∀(l k:List Rg) (r:Nat),a7 (l++k) r=match a7 l r with | some x=>some x | none=>a7 k r
 | [],k,r=>rfl
 | y::l,k,r=>by
  show (bif Nat.beq y.r r then some y else a7 (l++k) r)=match (bif Nat.beq y.r r then some y else a7 l r) with | some x=>some x | none=>a7 k r
  cases hy:Nat.beq y.r r with
  | true=>rfl
  | false=>exact dF l k r
theorem gz:∀(l:List (Nat×RK)) (rg:List Rg) (c:lK l),rY l rg=some c→∀r,b5 l r=true→a7 (b9 l c) r=a7 rg r∧∃x,a7 rg r=some x
 | [],_,_,_,_,h=>by cases h
 | p::l,rg,c,hg,r,h=>by
  simp only [rY] at hg
  split at hg
  ·rename_i r' k c' y h1 h2
   split at hg
   ·rename_i x hx
    cases hg
    show (bif Nat.beq p.1 r then some (⟨p.1,p.2,x⟩:Rg) else a7 (b9 l y) r)=_∧_
    cases hp:Nat.beq p.1 r with
    | true=>
     have e:=beq_eq hp
     subst e
     have hr:=sE h1
     simp only at hr
     subst hr
     unfold D_ at hx
     split at hx
     ·rename_i ek
      obtain ⟨p1,p2⟩:=p
      simp only at ek
      subst ek
      cases hx
      rw [h1]
      exact ⟨rfl,_,rfl⟩
     ·cases hx
    | false=>
     have h:(Nat.beq p.1 r || b5 l r)=true:=h
     rw [hp,Bool.false_or] at h
     exact gz l rg y h2 r h
   ·cases hg
  ·cases hg
def WB (g:G) (aa:List A) (vs:List Value):Prop:=∀(i:Nat) (a:A) (v:Value),aa[i]?=some a→vs[i]?=some v→V g a v
def Zn (h h':H) (T:List Nat) (aa qZ:List A):Prop:=qZ.length=aa.length∧∃us,hp h'=app us (hp h)∧(∀u∈us,touch (.wr T) u.id=true) ∧
 ∀g S w (vs:List Value),Inv g S w→Agree (.wr T) (hp h) S→aa.length=vs.length→WB g aa vs→∃g',Inv g' (app us S) w∧Ext S g w (app us S) g' w∧WB g' qZ vs
def ye (a:Bool) (t:Ty) (p:A) (h:H):Option (A×H×List Nat):=bif a then (match p with
 | .agg cs=>match fixC 20 t cs h with
  | some (cs',h',T)=>some (.agg cs',h',T)
  | none=>none
 | _=>none) else bif rM p then none else (match p.cells with
 | some [c]=>match fixC 20 t [c] h with
  | some ([c'],h',T)=>some (c',h',T)
  | _=>none
 | _=>none)
def u9:List (Bool×Ty)→List A→H→Option (List A×H×List Nat)
 | [],[],h=>some ([],h,[])
 | p::l,a::aa,h=>match ye p.1 p.2 a h with
  | some (a',h1,T1)=>match u9 l aa h1 with
   | some (qZ,h2,T2)=>some (a'::qZ,h2,T1++T2)
   | none=>none
  | none=>none
 | _,_,_=>none
theorem vj {p c:A} (ha:rM p=false) (h:p.cells=some [c]):c=p:=by
 unfold A.cells at h
 split at h
 ·cases ha
 ·rename_i x
  cases hx:x.oneCell' with
  | true=>rw [hx] at h;simp at h;exact h.symm
  | false=>rw [hx] at h;cases h
 ·cases h
 ·cases h
 ·cases h
 ·simp at h;exact h.symm
theorem oT {a:Bool} {t:Ty} {p p':A} {h h':H} {T:List Nat} (hf:ye a t p h=some (p',h',T)):∃us,hp h'=app us (hp h)∧(∀u∈us,touch (.wr T) u.id=true)∧∀g S w (v:Value),Inv g S w→Agree (.wr T) (hp h) S→V g p v→∃g',Inv g' (app us S) w∧Ext S g w (app us S) g' w∧V g' p' v:=by
 unfold ye at hf
 cases a with
 | true=>
  simp only [cond_true] at hf
  split at hf
  ·rename_i cs
   split at hf
   ·rename_i cs' h1 T1 hc
    simp only [zI,zU] at hf
    obtain ⟨rfl,rfl,rfl⟩:=hf
    obtain ⟨us,c1,c2,c3⟩:=kg _ _ _ _ _ _ _ hc
    refine ⟨us,c1,c2,fun g S w v hI hA hv=>?_⟩
    cases hv with
    | agg _ vs hl h1 hh=>
     obtain ⟨g',q1,q2,q3⟩:=c3 g S w vs.toList hI hA ⟨by simpa using hl,fun j c x e1 e2=>⟨hh j c x e1 (by simpa using e2),h1 x (zG e2)⟩⟩
     exact ⟨g',q1,q2,by have:=q3.agg;simpa using this⟩
   ·cases hf
  ·cases hf
 | false=>
  simp only [cond_false] at hf
  obtain ⟨ha,hf⟩:=eP hf
  split at hf
  ·rename_i c hc
   split at hf
   ·rename_i c' h1 T1 Bf
    simp only [zI,zU] at hf
    obtain ⟨rfl,rfl,rfl⟩:=hf
    obtain ⟨us,c1,c2,c3⟩:=kg _ _ _ _ _ _ _ Bf
    obtain rfl:=vj ha hc
    refine ⟨us,c1,c2,fun g S w v hI hA hv=>?_⟩
    obtain ⟨g',q1,q2,q3⟩:=c3 g S w [v] hI hA ⟨rfl,fun j c x e1 e2=>by
     cases j with
     | zero=>simp at e1 e2;subst e1 e2;exact ⟨hv,hv.VR ha hc⟩
     | succ j=>simp at e1⟩
    exact ⟨g',q1,q2,(q3.2 0 _ v rfl rfl).1⟩
   ·cases hf
  ·cases hf
theorem oS:∀{l:List (Bool×Ty)} {aa qZ:List A} {h h':H} {T:List Nat},u9 l aa h=some (qZ,h',T)→Zn h h' T aa qZ
 | [],[],qZ,h,h',T,hf=>by
  simp only [u9,zI,zU] at hf
  obtain ⟨rfl,rfl,rfl⟩:=hf
  exact ⟨rfl,[],rfl,fun u hu=>(by simp at hu),fun g S w vs hI _ _ hv=>⟨g,hI,.refl S g w,hv⟩⟩
 | p::l,a::aa,qZ,h,h',T,hf=>by
  simp only [u9] at hf
  split at hf
  ·rename_i a1 h1 T1 Ft
   split at hf
   ·rename_i ZU h2 T2 xP
    simp only [zI,zU] at hf
    obtain ⟨rfl,rfl,rfl⟩:=hf
    obtain ⟨us,c1,c2,c3⟩:=oT Ft
    obtain ⟨hl,WI,d1,d2,d3⟩:=oS xP
    refine ⟨by simp [hl],us++WI,by rw [ep,←c1,d1],fun u hu=>?_,fun g S w vs hI hA hlen hv=>?_⟩
    ·rcases zX.1 hu with h | h
     ·exact cN (fun i hi=>zQ _ hi) (c2 u h)
     ·exact cN (fun i hi=>zS _ hi) (d2 u h)
    ·have GN:Agree (.wr T1) (hp h) S:=hA.mono fun i hi=>zQ _ hi
     have uW:Agree (.wr T2) (hp h1) (app us S):=by rw [c1];exact (hA.mono (fun i hi=>zS _ hi)).app us
     cases vs with
     | nil=>simp at hlen
     | cons v vs=>
      obtain ⟨g',q1,q2,q3⟩:=c3 g S w v hI GN (hv 0 a v rfl rfl)
      obtain ⟨g2,z1,z2,z3⟩:=d3 g' _ w vs q1 uW (by simpa using hlen) (fun i a v e1 e2=>(hv (i+1) a v (by simpa using e1) (by simpa using e2)).mono q2.le)
      rw [ep]
      refine ⟨g2,z1,q2.trans z2,fun i a v e1 e2=>?_⟩
      cases i with
      | zero=>simp at e1 e2;subst e1 e2;exact q3.mono z2.le
      | succ i=>exact z3 i a v (by simpa using e1) (by simpa using e2)
   ·cases hf
  ·cases hf
 | [],_::_,_,_,_,_,hf=>by cases hf
 | _::_,[],_,_,_,_,hf=>by cases hf
def sa (l:List (Bool×Ty)) (pv:A) (h:H):Option (A×H×List Nat):=match pv with
 | .eJ aa=>match u9 l aa h with
  | some (qZ,h',T)=>some (.eJ qZ,h',T)
  | none=>none
 | _=>none
def sb (l:List (Bool×Ty)) (pv:A) (h:H):Option (A×H×List Nat):=match l with
 | [p]=>ye p.1 p.2 pv h
 | l=>sa l pv h
def Plain (sg:ck):Type:=fL sg.ps→lK sg.rg→lK sg.wg→Option (fL sg.rs×lK sg.wg)
def BT (l:List (Bool×Ty)) (pv:A):Option (fL l):=match l with
 | [p]=>Eh [p] [pv]
 | l=>match pv with
  | .eJ aa=>Eh l aa
  | _=>none
def okW (l:List (Nat×RK)) (q:Nat):Bool:=Nat.beq (q%2) 0 || l.any fun p=>Nat.beq q (d_ p.1)
def z7 (cx:Cx) (f:FuncId) (sg:ck) (aa:List A) (c:lK sg.rg) (d:lK sg.wg):Option (fL sg.rs×lK sg.wg):=cx.call (fL sg.rs×lK sg.wg) f aa (h0 sg.rg sg.wg c d) (fun pv h' T=>match sb sg.rs pv h' with
 | some (wH,h2,T2)=>bif T.ws.all (okW sg.wg) && T2.all (okW sg.wg) then (match BT sg.rs wH,rY sg.wg h2.rg with
  | some y,some d'=>some (y,d')
  | _,_=>none) else none
 | none=>none)
def Et (cx:Cx) (f:FuncId) (sg:ck):Plain sg:=fun x c d=>z7 cx f sg (iC sg.ps x) c d
def mY (l:List (Bool×Ty)) (y:fL l):A:=rz (iC l y)
structure bg (P:Program) (f:FuncId) (sg:ck) (F:Plain sg):Prop where
 fn:∀x c d y,F x c d=some y→pf P f
 pc:∀x c d y d',F x c d=some (y,d')→∃t aL lk,PC P f (iC sg.ps x) (hp (h0 sg.rg sg.wg c d)) (hp ⟨t,aL,b9 sg.wg d'++b9 sg.rg c,lk⟩) (mY sg.rs y)
theorem sO {l:List (Nat×RK)} {ws:List Nat} (h:ws.all (okW l)=true) {r:Nat} (hr:b5 l r=false):ws.any (Nat.beq (d_ r))=false:=by
 cases hx:ws.any (Nat.beq (d_ r)) with
 | false=>rfl
 | true=>
  obtain ⟨q,h1,h2⟩:=List.any_eq_true.1 hx
  have h3:=List.all_eq_true.1 h q h1
  obtain rfl:=beq_eq h2
  unfold okW at h3
  rw [Bool.or_eq_true] at h3
  rcases h3 with h3 | h3
  ·have:=beq_eq h3;unfold d_ at this;omega
  ·obtain ⟨p,p1,p2⟩:=List.any_eq_true.1 h3
   have:r=p.1:=by have:=beq_eq p2;unfold d_ at this;omega
   subst this
   rw [show b5 l p.1=true from List.any_eq_true.2 ⟨p,p1,Nat.beq_refl _⟩] at hr
   cases hr
theorem vU {l:List (Bool×Ty)} {pv:A} {y:fL l} (h:BT l pv=some y):∀g v,V g pv v→V g (mY l y) v:=by
 have eJ:∀(l:List (Bool×Ty)) (aa:List A) (y:fL l),Eh l aa=some y→∀g v,V g (.eJ aa) v→V g (.eJ (iC l y)) v:=fun l aa y h g v hv=>by
  obtain ⟨k1,k2⟩:=nT l aa y h
  cases hv with
  | eJ _ vs hl zg=>
   refine .eJ _ vs (by rw [←k1];exact hl) (fun i c x e1 e2=>?_)
   have hi:i<aa.length:=by rw [k1];exact (zB.1 e1).1
   exact k2 i _ c (zD hi) e1 g x (zg i _ x (zD hi) e2)
 match l,y,h with
 | [p],y,h=>exact fun g v hv=>(nT [p] [pv] y h).2 0 pv _ rfl rfl g v hv
 | [],y,h=>
  intro g v hv
  cases pv with
  | eJ aa=>exact eJ [] aa y h g v hv
  | _=>cases h
 | p::q::l,y,h=>
  intro g v hv
  cases pv with
  | eJ aa=>exact eJ (p::q::l) aa y h g v hv
  | _=>cases h
theorem Agree.self {T:Fp} {S:Hp}:Agree T S S:=fun _ _=>⟨rfl,Iff.rfl⟩
theorem cR {h:H} {i:Nat} (hl:¬i<bS):(hp h).ob i=cp h.rg i∧((hp h).fr i↔di h.rg i):=⟨if_neg hl,by show (if i<bS then _ else _)↔_;rw [if_neg hl]⟩
theorem kK {i:Nat} (h:¬i<16777216):res i=d_ (hJ i):=by
 unfold res
 rw [ou h];rfl
theorem u7 {l:List (Bool×Ty)} {pv wH:A} {h h':H} {T:List Nat} (hf:sb l pv h=some (wH,h',T)):∃us,hp h'=app us (hp h)∧(∀u∈us,touch (.wr T) u.id=true)∧∀g S w (v:Value),Inv g S w→Agree (.wr T) (hp h) S→V g pv v→∃g',Inv g' (app us S) w∧Ext S g w (app us S) g' w∧V g' wH v:=by
 have eJ:∀(l:List (Bool×Ty)),sa l pv h=some (wH,h',T)→∃us,hp h'=app us (hp h)∧(∀u∈us,touch (.wr T) u.id=true)∧∀g S w (v:Value),Inv g S w→Agree (.wr T) (hp h) S→V g pv v→∃g',Inv g' (app us S) w∧Ext S g w (app us S) g' w∧V g' wH v:=fun l hf=>by
  unfold sa at hf
  split at hf
  ·rename_i aa
   split at hf
   ·rename_i qZ h1 T1 hc
    simp only [zI,zU] at hf
    obtain ⟨rfl,rfl,rfl⟩:=hf
    obtain ⟨hl,us,c1,c2,c3⟩:=oS hc
    refine ⟨us,c1,c2,fun g S w v hI hA hv=>?_⟩
    cases hv with
    | eJ _ vs GJ hh=>
     obtain ⟨g',q1,q2,q3⟩:=c3 g S w vs.toList hI hA (by simpa using GJ) (fun i c x e1 e2=>hh i c x e1 (by simpa using e2))
     exact ⟨g',q1,q2,.eJ qZ vs (by rw [hl,GJ]) (fun i c x e1 e2=>q3 i c x e1 (by simpa using e2))⟩
   ·cases hf
  ·cases hf
 unfold sb at hf
 split at hf
 ·exact oT hf
 ·exact eJ _ hf
theorem jU {P:Program} {cx:Cx} (hx:gD P cx) (f:FuncId) (sg:ck):∀aa c d y d',z7 cx f sg aa c d=some (y,d')→pf P f∧∃t aL lk,PC P f aa (hp (h0 sg.rg sg.wg c d)) (hp ⟨t,aL,b9 sg.wg d'++b9 sg.rg c,lk⟩) (mY sg.rs y):=fun aa c d y d' h=>by
 obtain ⟨pv,h',T,k1,k2⟩:=hx.call _ f _ _ _ _ h
 split at k1
 ·rename_i wH h2 T2 Rb
  obtain ⟨kw,k1⟩:=ae k1
  rw [zC] at kw
  split at k1
  ·rename_i y' ZT h1 O3
   cases k1
   refine ⟨k2.fn,h2.t,h2.aL,h2.lk,?_⟩
   have hs:=k2.ok (hp (h0 sg.rg sg.wg c d)) Agree.self
   have e:et T (hp h') (hp (h0 sg.rg sg.wg c d))=hp h':=Hp.ext' (fun i=>by
    show (if touch T i=true then _ else _)=_
    split
    ·rfl
    ·rename_i hi;exact (k2.out i (by simpa using hi)).1.symm) (fun i=>by
    show (if touch T i=true then _ else _)↔_
    split
    ·exact Iff.rfl
    ·rename_i hi;exact (k2.out i (by simpa using hi)).2.symm)
   rw [e] at hs
   obtain ⟨us,c1,c2,c3⟩:=u7 Rb
   have hf:=gz _ _ _ O3
   have e2:hp h2=hp ⟨h2.t,h2.aL,b9 sg.wg d'++b9 sg.rg c,h2.lk⟩:=by
    have key:∀i,¬i<bS→(hp h2).ob i=cp (b9 sg.wg d'++b9 sg.rg c) i∧((hp h2).fr i↔di (b9 sg.wg d'++b9 sg.rg c) i):=fun i hl=>by
     cases hk:b5 sg.wg (hJ i) with
     | true=>
      obtain ⟨q1,x,q2⟩:=hf _ hk
      rw [(cR hl).1,(cR hl).2]
      unfold cp di
      rw [dF,q1,q2]
      exact ⟨rfl,Iff.rfl⟩
     | false=>
      have hw:wt T i=false:=by
       unfold wt
       rw [kK hl,sO kw.1 hk,Bool.and_false]
      have h3:=k2.rd i hw
      have h4:=bW us (hp h') i (fun u hu e=>by
       have:=c2 u hu
       rw [←e] at this
       have this:T2.any (Nat.beq (res i))=true:=by simpa [touch,Fp.wr] using this
       rw [kK hl,sO kw.2 hk] at this;cases this)
      rw [c1,h4.1,h4.2,h3.1,h3.2,(cR hl).1,(cR hl).2]
      show cp (b9 sg.wg d++b9 sg.rg c) i=_∧(di (b9 sg.wg d++b9 sg.rg c) i↔_)
      unfold cp di
      rw [dF,dF,cq _ _ _ hk,cq _ _ _ hk]
      exact ⟨rfl,Iff.rfl⟩
    refine Hp.ext' (fun i=>?_) (fun i=>?_)
    ·by_cases hl:i<bS
     ·show (if i<bS then _ else _)=(if i<bS then _ else _);rw [if_pos hl,if_pos hl]
     ·rw [(key i hl).1,(cR hl).1]
    ·by_cases hl:i<bS
     ·show (if i<bS then _ else _)↔(if i<bS then _ else _);rw [if_pos hl,if_pos hl]
     ·rw [(key i hl).2,(cR hl).2]
   rw [←e2,c1]
   intro g w vs hI hl hv
   refine (hs g w vs hI hl hv).mono ?_
   rintro e w' ⟨v,g',rfl,q1,q2,q3⟩
   obtain ⟨g2,z1,z2,z3⟩:=c3 g' _ w' v q2 Agree.self q1
   exact ⟨v,g2,rfl,vU h1 g2 v z3,z1,q3.trans z2⟩
  ·cases k1
 ·cases k1
theorem z6 {P:Program} {cx:Cx} (hx:gD P cx) (f:FuncId) (sg:ck):bg P f sg (Et cx f sg):=
 ⟨fun x c d y h=>(jU hx f sg _ _ _ y.1 y.2 h).1,fun x c d y d' h=>(jU hx f sg _ _ _ _ _ h).2⟩
end
section
open Go.RowKit
def fQ:(l:List (Nat×RK))→lK l→List Rg→List Rg
 | [],_,rg=>rg
 | p::l,x,rg=>eR (fQ l x.2 rg) p.1 p.2 x.1
theorem gI:∀(l:List (Nat×RK)) (rg:List Rg) (c':lK l),(∀r,b5 l r=true→∃x,a7 rg r=some x)→∀r,a7 (fQ l c' rg) r=if b5 l r=true then a7 (b9 l c') r else a7 rg r
 | [],rg,c',_,r=>by simp [fQ,b5]
 | p::l,rg,c',hx,r=>by
  have ih:=gI l rg c'.2 (fun r hr=>hx r (by show (Nat.beq p.1 r || b5 l r)=true;rw [hr,Bool.or_true]))
  have hp:∃x,a7 (fQ l c'.2 rg) p.1=some x:=by
   rw [ih]
   split
   ·rename_i hk
    exact eT l c'.2 p.1 hk
   ·exact hx p.1 (by show (Nat.beq p.1 p.1 || b5 l p.1)=true;rw [Nat.beq_refl];rfl)
  obtain ⟨x,hp⟩:=hp
  show a7 (eR (fQ l c'.2 rg) p.1 p.2 c'.1) r=if (Nat.beq p.1 r || b5 l r)=true then (bif Nat.beq p.1 r then some (⟨p.1,p.2,c'.1⟩:Rg) else a7 (b9 l c'.2) r) else a7 rg r
  rw [iI _ p.1 p.2 c'.1 r x hp,ih]
  by_cases hr:r=p.1
  ·subst hr;rw [if_pos rfl,Nat.beq_refl];simp
  ·have:Nat.beq p.1 r=false:=by
    cases hb:Nat.beq p.1 r with
    | false=>rfl
    | true=>exact absurd (beq_eq hb).symm hr
   rw [if_neg hr,this];simp
def ck.al (sg:ck):List (Nat×RK):=sg.wg++sg.rg
theorem xp (l k:List (Nat×RK)) (r:Nat):b5 (l++k) r=(b5 l r || b5 k r):=List.any_append
def J9 (sg:ck) (h:H):Bool:=(sg.al.all fun p=>Nat.blt p.1 64 && p.2.kR (b5 sg.al)) && (sg.wg.all fun p=>!(qe h (d_ p.1))) && (sg.ps.all fun p=>kR (b5 sg.al) p.2) && (sg.rs.all fun p=>kR (b5 sg.al) p.2)
def F4 (sg:ck):Fp:=⟨false,sg.al.map fun p=>d_ p.1,!sg.wg.isEmpty,sg.wg.map fun p=>d_ p.1⟩
section
variable {β:Type}
def GS (sg:ck) (F:Plain sg) (aa:List A) (h:H) (K:A→H→Fp→Option β):Option β:=match Eh sg.ps aa,rY sg.rg h.rg,rY sg.wg h.rg with
 | some x,some c,some d=>bif J9 sg h then bd (F x c d) (fun p=>vZ (mY sg.rs p.1) (fun v=>K v { h with rg:=fQ sg.wg p.2 h.rg } (F4 sg))) else none
 | _,_,_=>none
def Gx:List Nat→Fp
 | []=>.no
 | l=>.wr l
theorem iF (l:List Nat) (i:Nat):touch (Gx l) i=touch (.wr l) i:=by cases l<;>rfl
theorem Ee (l:List Nat) (i:Nat) (h:wt (Gx l) i=false):touch (.wr l) i=false:=by
 cases l with
 | nil=>rfl
 | cons a l=>exact nh h
def Pf (sg:ck) (F:Plain sg) (aa:List A) (h:H) (K:A→H→Fp→Option β):Option β:=match u9 sg.ps aa h with
 | some (qZ,h1,T1)=>GS sg F qZ h1 (fun v h2 T=>K v h2 ((Gx T1).cat T))
 | none=>none
theorem AU {kp:Nat→Bool} {i:Nat} (h:i<16777216):ev kp i=false:=by
 unfold ev
 rw [rH h];rfl
theorem xq {kp:Nat→Bool} {i:Nat} (h:¬i<16777216):ev kp i=kp (hJ i):=by
 unfold ev
 rw [ou h];rfl
theorem o6 (l:List (Nat×RK)) (r:Nat):(l.map fun p=>d_ p.1).any (Nat.beq (d_ r))=b5 l r:=by
 induction l with
 | nil=>rfl
 | cons p l ih=>
  show (Nat.beq (d_ r) (d_ p.1) || (l.map fun p=>d_ p.1).any (Nat.beq (d_ r)))=(Nat.beq p.1 r || b5 l r)
  rw [ih]
  have:Nat.beq (d_ r) (d_ p.1)=Nat.beq p.1 r:=by
   cases h1:Nat.beq p.1 r with
   | true=>rw [beq_eq h1];exact Nat.beq_refl _
   | false=>
    cases h2:Nat.beq (d_ r) (d_ p.1) with
    | false=>rfl
    | true=>
     have:p.1=r:=by have:=beq_eq h2;unfold d_ at this;omega
     rw [this,Nat.beq_refl] at h1;cases h1
  rw [this]
theorem BM (l:List (Nat×RK)) (i:Nat):(l.map fun p=>d_ p.1).any (Nat.beq (b8 i))=false:=by
 induction l with
 | nil=>rfl
 | cons p l ih=>
  show (Nat.beq (b8 i) (d_ p.1) || (l.map fun p=>d_ p.1).any (Nat.beq (b8 i)))=false
  rw [ih,Bool.or_false]
  cases h2:Nat.beq (b8 i) (d_ p.1) with
  | false=>rfl
  | true=>have:=beq_eq h2;unfold d_ b8 at this;omega
theorem jM (sg:ck) (i:Nat):touch (F4 sg) i=ev (b5 sg.al) i:=by
 have e:touch (F4 sg) i=(sg.al.map fun p=>d_ p.1).any (Nat.beq (res i)):=Bool.false_or _
 rw [e]
 by_cases h:i<16777216
 ·rw [iJ h,AU h];exact BM _ _
 ·rw [kK h,xq h];exact o6 _ _
theorem Ij {sg:ck} {i:Nat} (h:wt (F4 sg) i=false) (hl:¬i<16777216):b5 sg.wg (hJ i)=false:=by
 have e:(!sg.wg.isEmpty && (sg.wg.map fun p=>d_ p.1).any (Nat.beq (res i)))=false:=h
 rw [kK hl,o6] at e
 cases hw:sg.wg with
 | nil=>rfl
 | cons p l=>rw [hw] at e;simpa using e
theorem mR {kp:Nat→Bool}:∀(l:List (Bool×Ty)) (x:fL l),(l.all fun p=>kR kp p.2)=true→∀a∈iC l x,VK kp a
 | [],_,_,a,ha=>by cases ha
 | p::l,x,h,a,ha=>by
  simp only [List.all_cons,zC] at h
  rcases List.mem_cons.1 ha with rfl | ha
  ·exact .pack _ h.1
  ·exact mR l x.2 h.2 a ha
theorem lW {kp:Nat→Bool}:∀(l:List (Nat×RK)) (c:lK l),(∀p∈l,p.2.kR kp=true)→∀r q,a7 (b9 l c) r=some q→q.k.kR kp=true
 | [],c,_,r,q,h=>by cases h
 | p::l,c,hl,r,q,h=>by
  have h:(bif Nat.beq p.1 r then some (⟨p.1,p.2,c.1⟩:Rg) else a7 (b9 l c.2) r)=some q:=h
  cases hb:Nat.beq p.1 r with
  | true=>rw [hb] at h;cases h;exact hl p (.head _)
  | false=>rw [hb] at h;exact lW l c.2 (fun p hp=>hl p (.tail _ hp)) r q h
theorem yu {P:Program} {f:FuncId} {sg:ck} {F:Plain sg} (hF:bg P f sg F) {aa:List A} {h:H} {K:A→H→Fp→Option β} {r:β} (hr:GS sg F aa h K=some r):∃pv h' T,K pv h' T=some r∧nR P f aa h h' T pv:=by
 unfold GS at hr
 split at hr
 ·rename_i x c d hx hc hd
  obtain ⟨hs,hr⟩:=ae hr
  obtain ⟨⟨y,d'⟩,hy,hr⟩:=mQ hr
  obtain ⟨pv,hr,kS⟩:=rm hr
  unfold J9 at hs
  simp only [zC] at hs
  obtain ⟨⟨⟨GF,_⟩,Xw⟩,QL⟩:=hs
  obtain ⟨t,aL,lk,LG⟩:=hF.pc x c d y d' hy
  have Wo:=gz _ _ _ hc
  have Wn:=gz _ _ _ hd
  have uT:=gI sg.wg h.rg d' (fun r hr=>(Wn r hr).2)
  have OP:∀r,b5 sg.al r=(b5 sg.wg r || b5 sg.rg r):=fun r=>xp _ _ r
  have fA:∀r,b5 sg.al r=true→a7 (b9 sg.wg d++b9 sg.rg c) r=a7 h.rg r:=fun r hk=>by
   rw [dF]
   cases hw:b5 sg.wg r with
   | true=>obtain ⟨e,q,hq⟩:=Wn r hw;rw [e,hq]
   | false=>
    rw [cq _ _ _ hw]
    exact (Wo r (by rw [OP,hw] at hk;simpa using hk)).1
  have fB:∀r,b5 sg.al r=true→a7 (b9 sg.wg d'++b9 sg.rg c) r=a7 (fQ sg.wg d' h.rg) r:=fun r hk=>by
   rw [dF,uT]
   cases hw:b5 sg.wg r with
   | true=>obtain ⟨q,hq⟩:=eT sg.wg d' r hw;rw [hq];simp
   | false=>
    rw [cq _ _ _ hw]
    exact (Wo r (by rw [OP,hw] at hk;simpa using hk)).1
  have fC:∀r,b5 sg.al r=false→a7 (b9 sg.wg d++b9 sg.rg c) r=none:=fun r hk=>by
   rw [OP,Bool.or_eq_false_iff] at hk
   rw [dF,cq _ _ _ hk.1]
   exact cq _ _ _ hk.2
  have fD:∀i,(¬i<bS→b5 sg.wg (hJ i)=false)→(hp { h with rg:=fQ sg.wg d' h.rg }).ob i=(hp h).ob i∧((hp { h with rg:=fQ sg.wg d' h.rg }).fr i↔(hp h).fr i):=fun i hi=>by
   show (if i<bS then cY h.t i else cp (fQ sg.wg d' h.rg) i)=(if i<bS then cY h.t i else cp h.rg i)∧((if i<bS then h.aL≤i else di (fQ sg.wg d' h.rg) i)↔(if i<bS then h.aL≤i else di h.rg i))
   by_cases hl:i<bS
   ·rw [if_pos hl,if_pos hl,if_pos hl,if_pos hl];exact ⟨rfl,Iff.rfl⟩
   ·rw [if_neg hl,if_neg hl,if_neg hl,if_neg hl]
    have:=uT (hJ i)
    rw [hi hl,if_neg (by simp)] at this
    unfold cp di
    rw [this];exact ⟨rfl,Iff.rfl⟩
  have xc:∀{i},ev (b5 sg.al) i=true→¬i<bS∧b5 sg.al (hJ i)=true:=fun {i} hi=>by
   unfold ev at hi
   simp only [zC,Bool.not_eq_true'] at hi
   refine ⟨fun hl=>?_,hi.2⟩
   have:Nat.blt i 16777216=true:=rH hl
   rw [this] at hi;cases hi.1
  have Lb:∀{i},ev (b5 sg.al) i=false→¬i<bS→b5 sg.al (hJ i)=false:=fun {i} hi hl=>by
   rw [xq hl] at hi;exact hi
  have V5:∀(l:List Rg),(∀r q,a7 l r=some q→q.k.kR (b5 sg.al)=true)→∀i x,¬i<bS→cp l i=some x→GW (b5 sg.al) x:=fun l hl i x _ hx=>by
   unfold cp at hx
   split at hx
   ·rename_i q hq
    exact ue (hl _ q hq) hx
   ·cases hx
  have V6:∀(d1:lK sg.wg) r q,a7 (b9 sg.wg d1++b9 sg.rg c) r=some q→q.k.kR (b5 sg.al)=true:=fun d1 r q hq=>by
   have eV:∀p∈sg.al,p.2.kR (b5 sg.al)=true:=fun p hp=>by
    have:=List.all_eq_true.1 GF p hp
    simp only [zC] at this
    exact this.2
   rw [dF] at hq
   split at hq
   ·rename_i q1 h1
    cases hq
    exact lW sg.wg d1 (fun p hp=>eV p (zQ _ hp)) _ _ h1
   ·exact lW sg.rg c (fun p hp=>eV p (zS _ hp)) _ _ hq
  refine ⟨pv,_,_,hr,⟨fun i hi=>fD i (fun hl=>?_),fun i hi=>fD i (fun hl=>Ij hi hl),hF.fn x c d _ hy,fun S2 hA=>?_⟩⟩
  ·rw [jM] at hi
   have:=Lb hi hl
   rw [OP,Bool.or_eq_false_iff] at this
   exact this.1
  ·have LF:=PC.frame (kp:=b5 sg.al) (S:=S2) (fun i hi=>?_) (fun i hi=>?_) (fun i q hq=>?_) (fun i q hi hq=>?_) (mR sg.ps x Xw) (r:=mY sg.rs y) ?_ LG
   ·have e:Hp.join (b5 sg.al) (hp ⟨t,aL,b9 sg.wg d'++b9 sg.rg c,lk⟩) S2=et (F4 sg) (hp { h with rg:=fQ sg.wg d' h.rg }) S2:=by
     refine Hp.ext' (fun i=>?_) (fun i=>?_)
     ·show (if ev (b5 sg.al) i=true then _ else _)=(if touch (F4 sg) i=true then _ else _)
      rw [jM]
      by_cases hi:ev (b5 sg.al) i=true
      ·obtain ⟨n1,n2⟩:=xc hi
       rw [if_pos hi,if_pos hi,(cR n1).1,(cR n1).1]
       unfold cp
       rw [fB _ n2]
      ·rw [if_neg hi,if_neg hi]
     ·show (if ev (b5 sg.al) i=true then _ else _)↔(if touch (F4 sg) i=true then _ else _)
      rw [jM]
      by_cases hi:ev (b5 sg.al) i=true
      ·obtain ⟨n1,n2⟩:=xc hi
       rw [if_pos hi,if_pos hi,(cR n1).2,(cR n1).2]
       unfold di
       rw [fB _ n2]
      ·rw [if_neg hi,if_neg hi]
    rw [e] at LF
    obtain ⟨u1,u2⟩:=nT _ _ _ hx
    intro g w vs hI hl hv
    refine (LF g w vs hI (by rw [←u1];exact hl) (fun i p v e1 e2=>?_)).mono ?_
    ·have hi:i<aa.length:=by rw [u1];exact (zB.1 e1).1
     exact u2 i _ p (zD hi) e1 g v (hv i _ v (zD hi) e2)
    ·rintro e w' ⟨v,g',rfl,q1,q2,q3⟩
     exact ⟨v,g',rfl,kS g' v q1,q2,q3⟩
   ·by_cases hl:i<bS
    ·show (if i<bS then cY .nil i else _)=none
     rw [if_pos hl];rfl
    ·rw [(cR hl).1]
     show cp (b9 sg.wg d++b9 sg.rg c) i=none
     unfold cp
     rw [fC _ (Lb hi hl)]
   ·obtain ⟨n1,n2⟩:=xc hi
    obtain ⟨a1,a2⟩:=hA i (by rw [jM];exact hi)
    rw [a1,a2,(cR n1).1,(cR n1).2,(cR n1).1,(cR n1).2]
    show cp h.rg i=cp (b9 sg.wg d++b9 sg.rg c) i∧(di h.rg i↔di (b9 sg.wg d++b9 sg.rg c) i)
    unfold cp di
    rw [fA _ n2];exact ⟨rfl,Iff.rfl⟩
   ·by_cases hl:i<bS
    ·have hq:(if i<bS then cY .nil i else _)=some q:=hq
     rw [if_pos hl] at hq;cases hq
    ·rw [(cR hl).1] at hq
     exact V5 _ (V6 d) i q hl hq
   ·rw [(cR (xc hi).1).1] at hq
    exact V5 _ (V6 d') i q (xc hi).1 hq
   ·have eV:=mR (kp:=b5 sg.al) sg.rs y QL
    unfold mY
    generalize iC sg.rs y=ps at eV
    match ps,eV with
    | [p],eV=>exact eV p (.head _)
    | [],eV=>exact .eJ eV
    | p::q::ps,eV=>exact .eJ eV
 ·cases hr
theorem F6 {P:Program} {f:FuncId} {sg:ck} {F:Plain sg} (hF:bg P f sg F) {aa:List A} {h:H} {K:A→H→Fp→Option β} {r:β} (hr:Pf sg F aa h K=some r):∃pv h' T,K pv h' T=some r∧nR P f aa h h' T pv:=by
 unfold Pf at hr
 split at hr
 ·rename_i qZ h1 T1 Bf
  obtain ⟨pv,h2,T,k1,k2⟩:=yu hF hr
  obtain ⟨hl,us,c1,c2,c3⟩:=oS Bf
  have out:∀i,touch (Gx T1) i=false→(hp h1).ob i=(hp h).ob i∧((hp h1).fr i↔(hp h).fr i):=fun i hi=>by
   rw [c1];exact bW us _ i (fun u hu e=>by rw [iF,e,c2 u hu] at hi;cases hi)
  have f1:i_ h h1 (Gx T1):=⟨out,fun i hi=>out i ((iF T1 i).trans (Ee T1 i hi))⟩
  have f2:i_ h1 h2 T:=⟨k2.out,k2.rd⟩
  refine ⟨pv,h2,_,k1,(f1.trans f2).out,(f1.trans f2).rd,k2.fn,fun S2 hA=>?_⟩
  rw [←da f2]
  have A1:=hA.left
  have A2:=Agree.right f1 hA
  have e:et (Gx T1) (hp h1) S2=app us S2:=by rw [c1];exact dG (fun u hu=>(iF T1 _).trans (c2 u hu)) A1
  rw [e] at A2 ⊢
  intro g w vs hI O1 hv
  obtain ⟨g1,q1,q2,q3⟩:=c3 g S2 w vs hI (fun i hi=>A1 i ((iF T1 i).trans hi)) O1 hv
  refine (k2.ok _ A2 g1 w vs q1 (by rw [hl];exact O1) q3).mono ?_
  rintro e w' ⟨v,g',rfl,z1,z2,z3⟩
  exact ⟨v,g',rfl,z1,z2,q2.trans z3⟩
 ·cases hr
end
end
section
open Go.RowKit
def stay (N i:Nat):Prop:=i<N∨¬i<bS
structure sn (N:Nat) (g g':G):Prop where
 bc:∀i,stay N i→g'.bc i=g.bc i
 mem:g'.mem=g.mem
 lp:g'.lp=g.lp
def VP (N:Nat) (c:A):Prop:=∀g g' v,sn N g g'→V g c v→V g' c v
def y9 (N:Nat):Ref→Bool
 | .loc o=>Nat.blt o N
 | .cE _ _=>true
theorem gK {N:Nat} {x:Ref} (h:y9 N x=true) {g g':G} (k:sn N g g'):g'.bc x.id=g.bc x.id:=by
 cases x with
 | loc o=>exact k.bc o (.inl (aQ h))
 | cE r j=>exact k.bc _ (.inr (Nat.not_lt.2 (jz r j)))
def okF (p:A→Bool):Nat→Tr A→Bool
 | 0,_=>true
 | n+1,F=>p (aP F.get n) && okF p n F
theorem w_ {p:A→Bool} {F:Tr A}:∀{n:Nat},okF p n F=true→∀i,i<n→p (aP F.get i)=true
 | n+1,h,i,hi=>by
  have h:(p (aP F.get n) && okF p n F)=true:=h
  rw [zC] at h
  by_cases e:i=n
  ·rw [e];exact h.1
  ·exact w_ h.2 i (by omega)
def oq (N:Nat):Nat→A→Bool
 | 0,_=>false
 | k+1,a=>match a with
  | .agg cs=>cs.all (oq N k)
  | .eJ cs=>cs.all (oq N k)
  | .fn _ fi ca=>fi.all (oq N k) && ca.all (oq N k)
  | .ptr o _=>Nat.blt o N
  | .tp x _=>y9 N x
  | .sl o _ _ _=>Nat.blt o N
  | .ts x _ _ _=>y9 N x
  | .tf x _ _ _=>y9 N x
  | .tw x _=>y9 N x
  | .aa x _ _ _=>y9 N x
  | .mp x=>y9 N x
  | .mU q n F _ _ _ _=>Nat.blt q N && okF (oq N k) n F
  | _=>true
theorem VP.tp {N:Nat} {x:Ref} {π:List Sp} (h:y9 N x=true):VP N (.tp x π):=fun g g' v k hv=>by
 cases hv with
 | tp _ _ b s h1 hk=>exact .tp x π b s ((gK h k).trans h1) hk
theorem VP.tw {N:Nat} {x:Ref} {z:Nat} (h:y9 N x=true):VP N (.tw x z):=fun g g' v k hv=>by
 cases hv with
 | ni _ _ ad h1=>exact .ni x z ad ((gK h k).trans h1)
 | tw _ _ n b cap t h1 hn hx hp d hd=>exact .tw x z n b cap t ((gK h k).trans h1) hn hx hp d hd
theorem VP.e0 {N:Nat}:VP N .e0:=fun g g' v k hv=>by cases hv;exact .e0 _
theorem VP.mp {N:Nat} {x:Ref} (h:y9 N x=true):VP N (.mp x):=fun g g' v k hv=>by
 cases hv with
 | mp _ b s h1=>exact .mp x b s ((gK h k).trans h1)
theorem dn {N:Nat}:∀(k:Nat) (a:A),oq N k a=true→VP N a
 | 0,_,h=>by cases h
 | k+1,.v x,_=>fun g g' v _ hv=>by cases hv;exact .v _
 | k+1,.agg cs,h=>fun g g' v hg hv=>by
  have h:cs.all (oq N k)=true:=h
  rw [List.all_eq_true] at h
  cases hv with
  | agg _ vs hl h1 hh=>exact .agg cs vs hl h1 (fun i c x e1 e2=>dn k c (h c (zG e1)) g g' x hg (hh i c x e1 e2))
 | k+1,.eJ cs,h=>fun g g' v hg hv=>by
  have h:cs.all (oq N k)=true:=h
  rw [List.all_eq_true] at h
  cases hv with
  | eJ _ vs hl hh=>exact .eJ cs vs hl (fun i c x e1 e2=>dn k c (h c (zG e1)) g g' x hg (hh i c x e1 e2))
 | k+1,.fn f fi ca,h=>fun g g' v hg hv=>by
  have h:(fi.all (oq N k) && ca.all (oq N k))=true:=h
  rw [zC,List.all_eq_true,List.all_eq_true] at h
  cases hv with
  | fn _ _ _ fv cv hf hc h1 h2=>exact .fn f fi ca fv cv hf hc (fun i c x e1 e2=>dn k c (h.1 c (zG e1)) g g' x hg (h1 i c x e1 e2)) (fun i c x e1 e2=>dn k c (h.2 c (zG e1)) g g' x hg (h2 i c x e1 e2))
 | k+1,.ptr o off,h=>fun g g' v hg hv=>by
  cases hv with
  | ptr _ _ b s h1=>exact .ptr o off b s ((hg.bc o (.inl (aQ h))).trans h1)
 | k+1,.tp x π,h=>.tp h
 | k+1,.sl o off z n,h=>fun g g' v hg hv=>by
  cases hv with
  | sl _ _ _ _ b cap s h1 hn hx hs=>exact .sl o off z n b cap s ((hg.bc o (.inl (aQ h))).trans h1) hn hx hs
 | k+1,.ts x z off n,h=>fun g g' v hg hv=>by
  cases hv with
  | ts _ _ _ _ b cap s h1 hn hx hs hp d hd hq=>exact .ts x z off n b cap s ((gK h hg).trans h1) hn hx hs hp d hd hq
  | nk _ _ _ _ ad h1 hn=>exact .nk x z off n ad ((gK h hg).trans h1) hn
 | k+1,.tf x z off n,h=>fun g g' v hg hv=>by
  cases hv with
  | tf _ _ _ _ b s h1 hx hs d hd=>exact .tf x z off n b s ((gK h hg).trans h1) hx hs d hd
  | vX _ _ _ _ ad h1 hn=>exact .vX x z off n ad ((gK h hg).trans h1) hn
 | k+1,.tw x z,h=>.tw h
 | k+1,.aa x π n z,h=>fun g g' v hg hv=>by
  cases hv with
  | aa _ _ _ _ b cap s h1 hk hn hx=>exact .aa x π n z b cap s ((gK h hg).trans h1) hk hn hx
 | k+1,.e0,_=>.e0
 | k+1,.tl t f l,_=>fun g g' v hg hv=>by
  cases hv with
  | tl _ _ _ _ h=>exact .tl t f l v (by rw [hg.mem];exact h)
 | k+1,.nn t l,_=>fun g g' v hg hv=>by
  cases hv with
  | nn _ _ a n c h=>exact .nn t l a n c (by rw [hg.mem];exact h)
 | k+1,.dp t x,_=>fun g g' v hg hv=>by
  cases hv with
  | dp _ _ b off f hm=>exact .dp t x b off f (fun j c e=>by rw [hg.mem];exact hm j c e)
 | k+1,.mp x,h=>.mp h
 | k+1,.op r o,_=>fun g g' v hg hv=>by
  cases hv with
  | op _ _ _ h0 h1=>exact .op r o v h0 (fun j e=>VP.tp (N:=N) (x:=.cE r j) rfl g g' v hg (h1 j e))
 | k+1,.os r z o,_=>fun g g' v hg hv=>by
  cases hv with
  | os _ _ _ _ h0 h1=>exact .os r z o v (fun e=>VP.e0 (N:=N) g g' v hg (h0 e)) (fun j e=>VP.tw (N:=N) (x:=.cE r j) rfl g g' v hg (h1 j e))
 | k+1,.om r o,_=>fun g g' v hg hv=>by
  cases hv with
  | om _ _ _ h0 h1=>exact .om r o v h0 (fun j e=>VP.mp (N:=N) (x:=.cE r j) rfl g g' v hg (h1 j e))
 | k+1,.mU q n F ps j aa bd,h=>fun g g' v hg hv=>by
  have h:(Nat.blt q N && okF (oq N k) n F)=true:=h
  rw [zC] at h
  cases hv with
  | mU _ _ _ _ _ _ _ b s l h0 hl h1 h2 h3 h4 h5=>exact .mU q n F ps j aa bd b s l ((hg.bc q (.inl (aQ h.1))).trans h0) (by rw [hg.lp];exact hl) h1 h2 h3 h4 (fun i hi=>dn k _ (w_ h.2 i hi) g g' _ hg (h5 i hi))
 | k+1,.un,_=>fun g g' v _ hv=>by cases hv;exact .un
 | k+1,.bR,_=>fun g g' v _ _=>.bR v
theorem eH {N:Nat}:∀(t:Ty) (x:t.T),∀c∈aB t x,VP N c
 | .int k,x,c,h=>by rcases zF.1 h with rfl;exact dn 1 _ rfl
 | .bool,x,c,h=>by rcases zF.1 h with rfl;exact dn 1 _ rfl
 | .unit,_,c,h=>by cases h
 | .pair a b,x,c,h=>(zX.1 h).elim (eH a x.1 c) (eH b x.2 c)
 | .arr n t,l,c,h=>by
  obtain ⟨i,_,h⟩:=List.mem_flatMap.1 h
  exact eH t _ c h
 | .aF t,l,c,h=>by rcases zF.1 h with rfl;exact dn 1 _ rfl
 | .ptr r,x,c,h=>by rcases zF.1 h with rfl;exact dn 1 _ rfl
 | .b6 r,j,c,h=>by rcases zF.1 h with rfl;exact dn 1 _ rfl
 | .fj r z,x,c,h=>by rcases zF.1 h with rfl;exact dn 1 _ rfl
 | .kB r z,j,c,h=>by rcases zF.1 h with rfl;exact dn 1 _ rfl
 | .mp r,x,c,h=>by rcases zF.1 h with rfl;exact dn 1 _ rfl
theorem jX {N:Nat} (a:Bool) (t:Ty) (x:t.T):VP N (bq a t x):=by
 unfold bq
 have h:=eH (N:=N) t x
 cases a with
 | true=>
  intro g g' v hg hv
  cases hv with
  | agg _ vs hl h1 hh=>exact .agg _ vs hl h1 (fun i c y e1 e2=>h c (zG e1) g g' y hg (hh i c y e1 e2))
 | false=>
  generalize aB t x=cs at h
  match cs,h with
  | [c],h=>exact h c (.head _)
  | [],_=>exact fun g g' v _ _=>.bR v
  | _::_::_,_=>exact fun g g' v _ _=>.bR v
def y_ (N:Nat):Ob→Prop
 | .cells cs=>∀c∈cs,VP N c
 | .bV (.map es)=>∀e∈es,VP N e.1∧VP N e.2
 | .bV .tx=>True
 | .bV (.loop _ _)=>True
theorem wz {N:Nat} {k:RK} {c:k.T} {j:Nat} {x:Ob} (h:cn k c j=some x):y_ N x:=by
 cases k with
 | box t=>
  simp only [cn] at h
  split at h
  ·cases h;exact eH t _
  ·cases h
 | row t=>
  simp only [cn] at h
  split at h
  ·cases h;exact fun c hc=>by obtain ⟨y,_,hy⟩:=List.mem_flatMap.1 hc;exact eH t y c hy
  ·cases h
 | map ka tk va tv=>
  simp only [cn] at h
  split at h
  ·cases h;exact fun e he=>by obtain ⟨y,_,rfl⟩:=List.mem_map.1 he;exact ⟨jX _ _ _,jX _ _ _⟩
  ·cases h
def Rw (g:G):Option (Option Nat)→Option (Option Nat×(Nat×Nat))
 | some (some o)=>g.bc o
 | some none=>some (none,(0,0))
 | none=>none
def gj (N:Nat) (names:List (Option Nat)) (g:G):G:=⟨fun i=>if i<N∨¬i<bS then g.bc i else Rw g names[i-N]?,g.mem,g.lp⟩
theorem xW (N:Nat) (names:List (Option Nat)) (g:G):sn N g (gj N names g):=⟨fun i h=>if_pos h,rfl,rfl⟩
theorem qm {N:Nat} {names:List (Option Nat)} {g:G} {k:Nat} {nm:Option Nat} (h:names[k]?=some nm) (hl:N+names.length≤bS):(gj N names g).bc (N+k)=Rw g (some nm):=by
 have hk:=(zB.1 h).1
 show (if N+k<N∨¬N+k<bS then g.bc (N+k) else _)=_
 rw [if_neg (by omega),Nat.add_sub_cancel_left,h]
theorem iE.to {g g':G} {w:World} {b t:Nat} {cs:List A} (h:iE g w b t cs) {N:Nat} (hs:sn N g g') (hc:∀c∈cs,VP N c):iE g' w b t cs:=by
 obtain ⟨cur,ty,k1,k2,k3,k4⟩:=h
 exact ⟨cur,ty,k1,k2,k3,fun j c x e1 e2=>⟨hc c (zG e1) g g' x hs (k4 j c x e1 e2).1,(k4 j c x e1 e2).2⟩⟩
theorem kz.to {g g':G} {x:GV} {ob:Obj} (h:kz g x ob) {N:Nat} (hs:sn N g g') (hc:y_ N (.bV x)):kz g' x ob:=by
 cases x with
 | map es=>
  obtain ⟨eU,clock,k1,k2,k3⟩:=h
  exact ⟨eU,clock,k1,k2,fun i e q e1 e2=>⟨(hc q (zG e2)).1 g g' _ hs (k3 i e q e1 e2).1,(hc q (zG e2)).2 g g' _ hs (k3 i e q e1 e2).2⟩⟩
 | tx=>exact h
 | loop=>exact h
theorem Ev {N:Nat} {names:List (Option Nat)} {S S' S0:Hp} {g g0:G} {w w0:World} (hl:N+names.length≤bS)
  (h1:∀i x,stay N i→S'.ob i=some x→(S.ob i=some x∧y_ N x)∨∃cs cs',S.ob i=some (.cells cs)∧x = .cells cs'∧cs'.length=cs.length∧∀vs,Vs g cs vs→Vs (gj N names g) cs' vs)
  (h2:∀i x,¬stay N i→S'.ob i=some x→∃k nm,i=N+k∧names[k]?=some nm∧(∀o,nm=some o→S.ob o=some x∧y_ N x)∧(nm=none→x = .cells []))
  (h3:∀(k k' o:Nat),names[k]?=some (some o)→names[k']?=some (some o)→k=k')
  (h4:∀(k o:Nat),names[k]?=some (some o)→stay N o→S'.ob o=none)
  (h5:∀i,S'.fr i→(¬stay N i→N+names.length≤i)∧(stay N i→S.fr i))
  (hf:∀o,N≤o→o<bS→S0.fr o∧g0.bc o=none) (hI:Inv g S w) (hE:Ext S0 g0 w0 S g w) :
  Inv (gj N names g) S' w∧Ext S0 g0 w0 S' (gj N names g) w:=by
 have hs:=xW N names g
 have ns:∀{i},¬stay N i→N≤i∧i<bS:=fun {i} h=>by unfold stay at h;omega
 have L0:∀i,¬stay N i→(gj N names g).bc i=Rw g names[i-N]?:=fun i h=>if_neg h
 have src:∀i x b s,S'.ob i=some x→(gj N names g).bc i=some (some b,s)→∃o y,S.ob o=some y∧g.bc o=some (some b,s)∧(i=o∧stay N i∨¬stay N i∧∃k,i=N+k∧names[k]?=some (some o)):=fun i x b s e1 e2=>by
  by_cases hi:stay N i
  ·rcases h1 i x hi e1 with ⟨q1,q2⟩ | ⟨cs,cs',q1,_,_⟩
   ·exact ⟨i,x,q1,by rw [←hs.bc i hi];exact e2,.inl ⟨rfl,hi⟩⟩
   ·exact ⟨i,_,q1,by rw [←hs.bc i hi];exact e2,.inl ⟨rfl,hi⟩⟩
  ·obtain ⟨k,nm,rfl,hk,q1,q2⟩:=h2 i x hi e1
   rw [qm hk hl] at e2
   cases nm with
   | none=>cases e2
   | some o=>exact ⟨o,x,(q1 o rfl).1,e2,.inr ⟨hi,k,rfl,hk⟩⟩
 have inj:∀i j x y b s s',S'.ob i=some x→S'.ob j=some y→(gj N names g).bc i=some (some b,s)→(gj N names g).bc j=some (some b,s')→i=j:=fun i j x y b s s' e1 e2 k1 k2=>by
  obtain ⟨o1,x1,p1,p3,p4⟩:=src i x b s e1 k1
  obtain ⟨o2,x2,q1,q3,q4⟩:=src j y b s' e2 k2
  have ho:=hI.inj o1 o2 x1 x2 b s s' p1 q1 p3 q3
  subst ho
  rcases p4 with ⟨rfl,p5⟩ | ⟨p5,k,rfl,p6⟩
  ·rcases q4 with ⟨rfl,_⟩ | ⟨q5,k',rfl,q6⟩
   ·rfl
   ·rw [h4 k' i q6 p5] at e1;cases e1
  ·rcases q4 with ⟨rfl,q5⟩ | ⟨q5,k',rfl,q6⟩
   ·rw [h4 k j p6 q5] at e2;cases e2
   ·rw [h3 k k' o1 p6 q6]
 refine ⟨⟨fun i cs e=>?_,fun i x e=>?_,fun i e=>?_,fun i b s e=>?_,inj,hI.mem,fun i b s j x e k=>?_,hI.lp⟩,⟨⟨fun o p e=>?_,fun _ _ _ e=>hE.le.mem _ _ _ e,fun _ _ e=>hE.le.lp _ _ e⟩,hE.os,hE.tape,hE.output,hE.size,hE.frame,fun k ⟨i,s,x,e1,e2⟩=>?_,fun o p e=>?_,fun o e=>?_,hE.ml,hE.lpo⟩⟩
 ·by_cases hi:stay N i
  ·rw [hs.bc i hi]
   rcases h1 i _ hi e with ⟨q1,q2⟩ | ⟨ds,eN,q1,q2,q3,q4⟩
   ·exact (hI.cells i cs q1).imp id fun ⟨b,t,k1,k2⟩=>⟨b,t,k1,k2.to hs q2⟩
   ·cases q2
    rcases hI.cells i ds q1 with ⟨k1,k2⟩ | ⟨b,t,k1,cur,ty,k2,k3,k4⟩
    ·exact .inl ⟨k1,List.length_eq_zero_iff.1 (by rw [q3,k2];rfl)⟩
    ·exact .inr ⟨b,t,by rw [q3];exact k1,cur,ty,k2,k3,by rw [q3];exact q4 _ k4⟩
  ·obtain ⟨k,nm,rfl,hk,q1,q2⟩:=h2 i _ hi e
   rw [qm hk hl]
   cases nm with
   | none=>
    have:=q2 rfl
    cases this
    exact .inl ⟨rfl,rfl⟩
   | some o=>
    obtain ⟨q3,q4⟩:=q1 o rfl
    exact (hI.cells o cs q3).imp id fun ⟨b,t,k1,k2⟩=>⟨b,t,k1,k2.to hs q4⟩
 ·by_cases hi:stay N i
  ·rcases h1 i _ hi e with ⟨q1,q2⟩ | ⟨ds,eN,q1,q2,q3⟩
   ·obtain ⟨b,s,ob,k1,k2,k3⟩:=hI.bV i x q1
    exact ⟨b,s,ob,(hs.bc i hi).trans k1,k2,k3.to hs q2⟩
   ·cases q2
  ·obtain ⟨k,nm,rfl,hk,q1,q2⟩:=h2 i _ hi e
   cases nm with
   | none=>have:=q2 rfl;cases this
   | some o=>
    obtain ⟨q3,q4⟩:=q1 o rfl
    obtain ⟨b,s,ob,k1,k2,k3⟩:=hI.bV o x q3
    exact ⟨b,s,ob,(qm hk hl).trans k1,k2,k3.to hs q4⟩
 ·obtain ⟨q1,q2⟩:=h5 i e
  by_cases hi:stay N i
  ·rw [hs.bc i hi];exact hI.fresh i (q2 hi)
  ·rw [L0 i hi,zb (by have:=q1 hi;omega)];rfl
 ·by_cases hi:stay N i
  ·rw [hs.bc i hi] at e;exact hI.lt i b s e
  ·rw [L0 i hi] at e
   generalize names[i-N]?=nm at e
   match nm,e with
   | some (some o),e=>exact hI.lt o b s e
 ·obtain ⟨o,y,p1,p3,_⟩:=src i x b s e k
  exact hI.gw o b s j y p1 p3
 ·have hi:stay N o:=by
   by_cases hi:stay N o
   ·exact hi
   ·obtain ⟨a1,a2⟩:=ns hi
    rw [(hf o a1 a2).2] at e;cases e
  rw [hs.bc o hi];exact hE.le.bc o p e
 ·obtain ⟨o,y,p1,p3,_⟩:=src i x k s e1 e2
  exact hE.own k ⟨o,s,y,p1,p3⟩
 ·by_cases hi:stay N o
  ·rw [hs.bc o hi] at e;exact hE.Bx o p e
  ·obtain ⟨a1,a2⟩:=ns hi
   exact .inr ⟨(hf o a1 a2).2,(hf o a1 a2).1⟩
 ·by_cases hi:stay N o
  ·exact hE.fr o ((h5 o e).2 hi)
  ·obtain ⟨a1,a2⟩:=ns hi
   exact (hf o a1 a2).1
end
section
open Go.RowKit
def vO {α:Type} (p:α→Bool):Option α→Bool
 | some x=>p x
 | none=>true
def np {α:Type} (p:α→Bool) (t:Tr α):Bool:=
 Tr.rec (motive:=fun _=>Bool) true (fun _ v _ a b=>vO p v && a && b) t
theorem iH {α:Type} {p:α→Bool}:∀{t:Tr α} (_:np p t=true) (i:Nat) (x:α),t.get i=some x→p x=true
 | .nil,_,i,x,e=>by rw [Tr.get_nil] at e;cases e
 | .node l v r,h,i,x,e=>by
  have h:(vO p v && np p l && np p r)=true:=h
  simp only [zC] at h
  cases i with
  | zero=>rw [Tr.fF] at e;subst e;exact h.1.1
  | succ i=>
   rw [Tr.dN] at e
   cases hb:Nat.beq (i%2) 0 with
   | true=>rw [hb] at e;exact iH h.1.2 _ x e
   | false=>rw [hb] at e;exact iH h.2 _ x e
def DD (N:Nat):dt→Bool
 | .cells cs=>cs.all (oq N 6)
 | .one _ _=>true
 | .row _ _=>true
 | .bV (.map es)=>es.all fun e=>oq N 6 e.1 && oq N 6 e.2
 | .bV .tx=>true
 | .bV (.loop _ _)=>true
theorem v5 {N:Nat} {F:Tr A} (h:np (oq N 6) F=true) (i:Nat):VP N (aP F.get i):=by
 unfold aP
 split
 ·rename_i p hp;exact dn 6 p (iH h i p hp)
 ·exact dn 1 _ rfl
theorem AD {N:Nat} {x:dt} (h:DD N x=true):y_ N x.low:=by
 cases x with
 | cells cs=>
  have h:cs.all (oq N 6)=true:=h
  rw [List.all_eq_true] at h
  exact fun c hc=>dn 6 c (h c hc)
 | one t x=>exact eH t x
 | row t l=>exact fun c hc=>by obtain ⟨y,_,hy⟩:=List.mem_flatMap.1 hc;exact eH t y c hy
 | bV x=>
  cases x with
  | map es=>
   have h:(es.all fun e=>oq N 6 e.1 && oq N 6 e.2)=true:=h
   rw [List.all_eq_true] at h
   exact fun e he=>by have:=h e he;rw [zC] at this;exact ⟨dn 6 _ this.1,dn 6 _ this.2⟩
  | tx=>trivial
  | loop=>trivial
def YD (k:Bool×Ty):Bool×Ty:=(false,match k.1 with | true=>.aF k.2 | false=>k.2)
def D9 (l:List (Bool×Ty)):List (Bool×Ty):=l.map YD
def CB:List ((Nat×Option Nat)×List (Bool×Ty))→Type
 | []=>Unit
 | p::l=>fL (D9 p.2)×CB l
def jD:List (Bool×Ty)→Nat
 | []=>0
 | (true,_)::l=>jD l+1
 | (false,_)::l=>jD l
def lb:List ((Nat×Option Nat)×List (Bool×Ty))→Nat
 | []=>0
 | p::l=>jD p.2+lb l
def LH.S (H:LH):Type:=fL (H.jr.map (·.2))×fL (H.grow.map fun p=>(false,Ty.aF p.2))×fL (H.boxes.map fun p=>(false,p.2))×CB H.qG×lK H.eK
def LH.m (H:LH):Nat:=H.grow.length+lb H.qG
section
variable {β:Type}
def xt:List Nat→Tr A→(Tr A→Option β)→Option β
 | [],F,k=>k F
 | i::l,F,k=>cO F i (some .bR) (fun F=>xt l F k)
def OT:(l:List (Nat×Bool×Ty))→fL (l.map (·.2))→Tr A→(Tr A→Option β)→Option β
 | [],_,F,k=>k F
 | p::l,x,F,k=>GP (bq p.2.1 p.2.2 x.1) (fun c=>cO F p.1 (some c) (fun F=>OT l x.2 F k))
def Qv:List (Nat×Ty)→Nat→Tr A→(Tr A→Option β)→Option β
 | [],_,F,k=>k F
 | p::l,i,F,k=>cO F p.1 (some (.tw (.loc i) p.2.size)) (fun F=>Qv l (i+1) F k)
def yt:List Nat→Tr dt→(Tr dt→Option β)→Option β
 | [],t,k=>k t
 | i::l,t,k=>cO t i none (fun t=>yt l t k)
def Qy:(l:List ((Nat×Option Nat)×Ty))→List Nat→fL (l.map fun p=>(false,p.2))→Tr dt→(Tr dt→Option β)→Option β
 | [],_,_,t,k=>k t
 | p::l,b::bs,x,t,k=>cO t b (some (.one p.2 x.1)) (fun t=>Qy l bs x.2 t k)
 | _::_,[],_,_,_=>none
def Qw:(l:List (Nat×Ty))→Nat→fL (l.map fun p=>(false,Ty.aF p.2))→Tr dt→(Tr dt→Option β)→Option β
 | [],_,_,t,k=>k t
 | p::l,i,x,t,k=>cO t i (some (.row p.2 x.1)) (fun t=>Qw l (i+1) x.2 t k)
def Gf:(ks:List (Bool×Ty))→fL (D9 ks)→Nat→List A
 | [],_,_=>[]
 | (true,t)::l,x,i=>.tw (.loc i) t.size::Gf l x.2 (i+1)
 | (false,t)::l,x,i=>bq false t x.1::Gf l x.2 i
def OU:(ks:List (Bool×Ty))→fL (D9 ks)→Nat→Tr dt→(Tr dt→Option β)→Option β
 | [],_,_,t,k=>k t
 | (true,u)::l,x,i,t,k=>cO t i (some (.row u x.1)) (fun t=>OU l x.2 (i+1) t k)
 | (false,_)::l,x,i,t,k=>OU l x.2 i t k
def Qx:(l:List ((Nat×Option Nat)×List (Bool×Ty)))→List Nat→Nat→CB l→Tr dt→(Tr dt→Option β)→Option β
 | [],_,_,_,t,k=>k t
 | p::l,b::bs,i,x,t,k=>cO t b (some (.cells (Gf p.2 x.1 i))) (fun t=>OU p.2 x.1 i t (fun t=>Qx l bs (i+jD p.2) x.2 t k))
 | _::_,[],_,_,_,_=>none
def uQ (H:LH) (gE bs cs bX:List Nat) (Fe:Tr A) (he:Go.Bm.H) (s:H.S) (k:Tr A→Go.Bm.H→Option β):Option β:=
 xt gE Fe (fun F=>OT H.jr s.1 F (fun F=>Qv H.grow he.aL F (fun F=>yt (bX++(bs++cs)) he.t (fun t=>Qy H.boxes bs s.2.2.1 t (fun t=>Qx H.qG cs (he.aL+H.grow.length) s.2.2.2.1 t (fun t=>Qw H.grow he.aL s.2.1 t (fun t=>k F ⟨t,he.aL+H.m,fQ H.eK s.2.2.2.2 he.rg,he.lk⟩)))))))
def OI (n:Nat):(l:List (Nat×Bool×Ty))→Tr A→Option (fL (l.map (·.2)))
 | [],_=>some ()
 | p::l,F=>bif Nat.blt p.1 n then (match gu p.2.1 p.2.2 (aP F.get p.1),OI n l F with
  | some x,some y=>some (x,y)
  | _,_=>none) else none
def z8 (t:Ty) (h:Tr dt):A→Option (List t.T×Option Nat)
 | .tw (.loc o) z=>match h.get o with
  | some (.row t' l)=>bif Nat.beq z t.size && Nat.blt o 16777216 then (match c_ (.aF t') (.aF t) l with
   | some l=>some (l,some o)
   | none=>none) else none
  | _=>none
 | .e0=>some ([],none)
 | .v (.slice none 0 0)=>some ([],none)
 | _=>none
def Dy (n:Nat):(l:List (Nat×Ty))→Tr A→Tr dt→Option (fL (l.map fun p=>(false,Ty.aF p.2))×List (Option Nat))
 | [],_,_=>some ((),[])
 | p::l,F,t=>bif Nat.blt p.1 n then (match z8 p.2 t (aP F.get p.1),Dy n l F t with
  | some x,some y=>some ((x.1,y.1),x.2::y.2)
  | _,_=>none) else none
def OJ:(l:List ((Nat×Option Nat)×Ty))→List Nat→Tr dt→Option (fL (l.map fun p=>(false,p.2)))
 | [],_,_=>some ()
 | p::l,b::bs,t=>match t.get b with
  | some (.one t' x)=>match c_ t' p.2 x,OJ l bs t with
   | some x,some y=>some (x,y)
   | _,_=>none
  | _=>none
 | _::_,[],_=>none
def EB:(ks:List (Bool×Ty))→List A→Tr dt→Option (fL (D9 ks)×List (Option Nat))
 | [],[],_=>some ((),[])
 | (true,u)::l,c::cs,t=>match z8 u t c,EB l cs t with
  | some x,some y=>some ((x.1,y.1),x.2::y.2)
  | _,_=>none
 | (false,u)::l,c::cs,t=>match gu false u c,EB l cs t with
  | some x,some y=>some ((x,y.1),y.2)
  | _,_=>none
 | _,_,_=>none
def wO:(l:List ((Nat×Option Nat)×List (Bool×Ty)))→List Nat→Tr dt→Option (CB l×List (Option Nat))
 | [],_,_=>some ((),[])
 | p::l,b::bs,t=>match t.get b with
  | some (.cells cs)=>match EB p.2 cs t,wO l bs t with
   | some x,some y=>some ((x.1,y.1),x.2++y.2)
   | _,_=>none
  | _=>none
 | _::_,[],_=>none
def wA (t:Tr dt) (q:Nat):Bool:=match t.get q with
 | some (.bV (.loop .ready none))=>true
 | _=>false
def Ge (N:Nat) (bs bX:List Nat) (eK:List (Nat×RK)) (ws:List Nat):Bool:=
 ws.all fun q=>bif Nat.beq (q%2) 0 then Nat.ble N (q / 2) || bs.any (Nat.beq (q / 2)) || bX.any (Nat.beq (q / 2)) else eK.any fun p=>Nat.beq q (d_ p.1)
def Pd:List Nat→List Nat→Bool
 | [],[]=>true
 | a::l,b::k=>Nat.beq a b && Pd l k
 | _,_=>false
theorem yk:∀{l k:List Nat},Pd l k=true→l=k
 | [],[],_=>rfl
 | a::l,b::k,h=>by
  have h:(Nat.beq a b && Pd l k)=true:=h
  rw [zC] at h
  rw [beq_eq h.1,yk h.2]
def xb (q:Nat):Option Nat→Bool
 | some o=>Nat.beq q o
 | none=>false
def uH (N:Nat) (bX:List Nat):List (Option Nat)→Bool
 | []=>true
 | none::l=>uH N bX l
 | some o::l=>(Nat.ble N o || bX.any (Nat.beq o)) && !(l.any (xb o)) && uH N bX l
def vv (H:LH) (n N:Nat) (bs cs qs bX GQ:List Nat) (F:Tr A) (h:Go.Bm.H) (ds:List Nat) (T:Fp):Option H.S:=
 bif Ge N (bs++cs++qs) bX H.eK T.ws && Pd ds GQ && qs.all (wA h.t) then (match OI n H.jr F,Dy n H.grow F h.t,OJ H.boxes bs h.t,wO H.qG cs h.t,rY H.eK h.rg with
 | some v,some g,some b,some e,some c=>bif uH N bX (g.2++e.2) then some (v,g.1,b,e.1,c) else none
 | _,_,_,_,_=>none) else none
def Ea:A→Option Nat
 | .tp (.loc b) []=>some b
 | .ptr b 0=>some b
 | _=>none
def Pm (F:Tr A) (p:Nat×Option Nat):Option Nat:=match p.2 with
 | none=>Ea (aP F.get p.1)
 | some j=>match aP F.get p.1 with
  | .mU _ _ F' _ _ _ _=>Ea (aP F'.get j)
  | _=>none
def FP:List (Nat×Option Nat)→Tr A→Option (List Nat)
 | [],_=>some []
 | p::l,F=>match Pm F p,FP l F with
  | some b,some bs=>some (b::bs)
  | _,_=>none
def NB:List Nat→Tr A→Option (List Nat)
 | [],_=>some []
 | p::l,F=>match aP F.get p,NB l F with
  | .mU q _ _ _ _ _ _,some bs=>some (q::bs)
  | _,_=>none
def FN:List (Nat×Ty)→Tr A→List Nat
 | [],_=>[]
 | p::l,F=>match aP F.get p.1 with
  | .tw (.loc o) _=>o::FN l F
  | _=>FN l F
def FM:List A→List Nat
 | []=>[]
 | .tw (.loc o) _::l=>o::FM l
 | _::l=>FM l
def FO (t:Tr dt):List Nat→List Nat
 | []=>[]
 | b::l=>match t.get b with
  | some (.cells cs)=>FM cs++FO t l
  | _=>FO t l
structure zo where
 bs:List Nat
 cs:List Nat
 qs:List Nat
 bX:List Nat
def Bv (H:LH) (F:Tr A) (h:Go.Bm.H):Option zo:=match FP (H.boxes.map (·.1)) F,FP (H.qG.map (·.1)) F,NB H.loops F with
 | some bs,some cs,some qs=>some ⟨bs,cs,qs,FN H.grow F++FO h.t cs⟩
 | _,_,_=>none
def tu (H:LH) (E:zo) (ds:List Nat) (F:Tr A) (h:Go.Bm.H):Bool:=
 np (oq h.aL 6) F && np (DD h.aL) h.t && Nat.ble (h.aL+H.m) 16777216 && (E.bs++E.cs).all (fun b=>Nat.blt b h.aL) && E.bX.all (fun b=>Nat.blt b h.aL) && ds.all (fun b=>Nat.blt b h.aL) && (E.bs++E.cs).all (fun b=>!(E.bX.any (Nat.beq b))) && E.qs.all (fun q=>wA h.t q && !((E.bX++(E.bs++E.cs)).any (Nat.beq q))) && H.eK.all fun p=>Option.isSome (a7 h.rg p.1)
def jT (H:LH) (N:Nat) (E:zo):Fp:=⟨true,[],true,((E.bs++E.cs).map b8++E.bX.map b8)++((List.range H.m).map (fun k=>b8 (N+k))++H.eK.map fun p=>d_ p.1)⟩
variable {r:β}
theorem jP {F F':Tr A} {d:Nat} {p:A} (e:F'.get=fun m=>if m=d then some p else F.get m) (i:Nat):aP F'.get i=if i=d then p else aP F.get i:=by
 unfold aP
 rw [e]
 by_cases h:i=d
 ·simp [h]
 ·simp [h]
theorem nE:∀(l:List Nat) (F:Tr A) (k:Tr A→Option β),xt l F k=some r→∃F',k F'=some r∧∀aO:Nat→A→Prop,(∀i∈l,aO i .bR)→(∀i,i∉l→aO i (aP F.get i))→∀i,aO i (aP F'.get i)
 | [],F,k,h=>⟨F,h,fun aO _ h2 i=>h2 i (by simp)⟩
 | d::l,F,k,h=>by
  obtain ⟨_,F1,k1,k2⟩:=aY h
  obtain ⟨F',q1,q2⟩:=nE l F1 k k1
  refine ⟨F',q1,fun aO h1 h2=>q2 aO (fun i hi=>h1 i (.tail _ hi)) (fun i hi=>?_)⟩
  rw [jP k2]
  by_cases hd:i=d
  ·rw [if_pos hd];exact h1 i (by rw [hd];exact .head _)
  ·rw [if_neg hd];exact h2 i (by simp [hd,hi])
def yL (aO:Nat→A→Prop):(l:List (Nat×Bool×Ty))→fL (l.map (·.2))→Prop
 | [],_=>True
 | p::l,x=>aO p.1 (bq p.2.1 p.2.2 x.1)∧yL aO l x.2
def yK (aO:Nat→A→Prop):List (Nat×Ty)→Nat→Prop
 | [],_=>True
 | p::l,i=>aO p.1 (.tw (.loc i) p.2.size)∧yK aO l (i+1)
def yO (aO:Nat→Option Ob→Prop):(l:List ((Nat×Option Nat)×Ty))→List Nat→fL (l.map fun p=>(false,p.2))→Prop
 | [],_,_=>True
 | p::l,b::bs,x=>aO b (some (.cells (aB p.2 x.1)))∧yO aO l bs x.2
 | _::_,[],_=>True
def yM (aO:Nat→Option Ob→Prop):(l:List (Nat×Ty))→Nat→fL (l.map fun p=>(false,Ty.aF p.2))→Prop
 | [],_,_=>True
 | p::l,i,x=>aO i (some (.cells (List.flatMap (α:=p.2.T) (aB p.2) x.1)))∧yM aO l (i+1) x.2
def vp (aO:Nat→Option Ob→Prop):(ks:List (Bool×Ty))→fL (D9 ks)→Nat→Prop
 | [],_,_=>True
 | (true,u)::l,x,i=>aO i (some (.cells (List.flatMap (α:=u.T) (aB u) x.1)))∧vp aO l x.2 (i+1)
 | (false,_)::l,x,i=>vp aO l x.2 i
def yN (aO:Nat→Option Ob→Prop):(l:List ((Nat×Option Nat)×List (Bool×Ty)))→List Nat→Nat→CB l→Prop
 | [],_,_,_=>True
 | p::l,b::bs,i,x=>aO b (some (.cells (Gf p.2 x.1 i)))∧vp aO p.2 x.1 i∧yN aO l bs (i+jD p.2) x.2
 | _::_,[],_,_=>True
theorem s7:∀(l:List (Nat×Bool×Ty)) (x:fL (l.map (·.2))) (F:Tr A) (k:Tr A→Option β),OT l x F k=some r→∃F',k F'=some r∧∀aO:Nat→A→Prop,yL aO l x→(∀i,aO i (aP F.get i))→∀i,aO i (aP F'.get i)
 | [],_,F,k,h=>⟨F,h,fun aO _ h2=>h2⟩
 | p::l,x,F,k,h=>by
  unfold OT at h
  rw [sd] at h
  obtain ⟨_,F1,k1,k2⟩:=aY h
  obtain ⟨F',q1,q2⟩:=s7 l x.2 F1 k k1
  refine ⟨F',q1,fun aO h1 h2=>q2 aO h1.2 (fun i=>?_)⟩
  rw [jP k2]
  by_cases hd:i=p.1
  ·rw [if_pos hd,hd];exact h1.1
  ·rw [if_neg hd];exact h2 i
theorem sZ:∀(l:List (Nat×Ty)) (j:Nat) (F:Tr A) (k:Tr A→Option β),Qv l j F k=some r→∃F',k F'=some r∧∀aO:Nat→A→Prop,yK aO l j→(∀i,aO i (aP F.get i))→∀i,aO i (aP F'.get i)
 | [],_,F,k,h=>⟨F,h,fun aO _ h2=>h2⟩
 | p::l,j,F,k,h=>by
  obtain ⟨_,F1,k1,k2⟩:=aY h
  obtain ⟨F',q1,q2⟩:=sZ l (j+1) F1 k k1
  refine ⟨F',q1,fun aO h1 h2=>q2 aO h1.2 (fun i=>?_)⟩
  rw [jP k2]
  by_cases hd:i=p.1
  ·rw [if_pos hd,hd];exact h1.1
  ·rw [if_neg hd];exact h2 i
theorem sy {t t':Tr dt} {d:Nat} {x:Option dt} (e:t'.get=fun m=>if m=d then x else t.get m) (i:Nat):cY t' i=if i=d then x.map dt.low else cY t i:=by
 unfold cY
 rw [e]
 by_cases h:i=d
 ·simp only [if_pos h];cases x<;>rfl
 ·simp only [if_neg h]
theorem nM:∀(l:List Nat) (t:Tr dt) (k:Tr dt→Option β),yt l t k=some r→∃t',k t'=some r∧∀aO:Nat→Option Ob→Prop,(∀i∈l,aO i none)→(∀i,i∉l→aO i (cY t i))→∀i,aO i (cY t' i)
 | [],t,k,h=>⟨t,h,fun aO _ h2 i=>h2 i (by simp)⟩
 | d::l,t,k,h=>by
  obtain ⟨_,t1,k1,k2⟩:=aY h
  obtain ⟨t',q1,q2⟩:=nM l t1 k k1
  refine ⟨t',q1,fun aO h1 h2=>q2 aO (fun i hi=>h1 i (.tail _ hi)) (fun i hi=>?_)⟩
  rw [sy k2]
  by_cases hd:i=d
  ·rw [if_pos hd];exact h1 i (by rw [hd];exact .head _)
  ·rw [if_neg hd];exact h2 i (by simp [hd,hi])
theorem Ah {t t1:Tr dt} {d:Nat} {x:dt} {aO:Nat→Option Ob→Prop} (e:t1.get=fun m=>if m=d then some x else t.get m) (h1:aO d (some x.low)) (h2:∀i,aO i (cY t i)) (i:Nat):aO i (cY t1 i):=by
 rw [sy e]
 by_cases hd:i=d
 ·rw [if_pos hd,hd];exact h1
 ·rw [if_neg hd];exact h2 i
theorem tb:∀(l:List ((Nat×Option Nat)×Ty)) (bs:List Nat) (x:fL (l.map fun p=>(false,p.2))) (t:Tr dt) (k:Tr dt→Option β),Qy l bs x t k=some r→∃t',k t'=some r∧∀aO:Nat→Option Ob→Prop,yO aO l bs x→(∀i,aO i (cY t i))→∀i,aO i (cY t' i)
 | [],_,_,t,k,h=>⟨t,h,fun aO _ h2=>h2⟩
 | p::l,b::bs,x,t,k,h=>by
  obtain ⟨_,t1,k1,k2⟩:=aY h
  obtain ⟨t',q1,q2⟩:=tb l bs x.2 t1 k k1
  exact ⟨t',q1,fun aO h1 h2=>q2 aO h1.2 (Ah k2 h1.1 h2)⟩
 | _::_,[],_,_,_,h=>by cases h
theorem s_:∀(l:List (Nat×Ty)) (j:Nat) (x:fL (l.map fun p=>(false,Ty.aF p.2))) (t:Tr dt) (k:Tr dt→Option β),Qw l j x t k=some r→∃t',k t'=some r∧∀aO:Nat→Option Ob→Prop,yM aO l j x→(∀i,aO i (cY t i))→∀i,aO i (cY t' i)
 | [],_,_,t,k,h=>⟨t,h,fun aO _ h2=>h2⟩
 | p::l,j,x,t,k,h=>by
  obtain ⟨_,t1,k1,k2⟩:=aY h
  obtain ⟨t',q1,q2⟩:=s_ l (j+1) x.2 t1 k k1
  exact ⟨t',q1,fun aO h1 h2=>q2 aO h1.2 (Ah k2 h1.1 h2)⟩
theorem oG:∀(ks:List (Bool×Ty)) (x:fL (D9 ks)) (j:Nat) (t:Tr dt) (k:Tr dt→Option β),OU ks x j t k=some r→∃t',k t'=some r∧∀aO:Nat→Option Ob→Prop,vp aO ks x j→(∀i,aO i (cY t i))→∀i,aO i (cY t' i)
 | [],_,_,t,k,h=>⟨t,h,fun aO _ h2=>h2⟩
 | (true,u)::l,x,j,t,k,h=>by
  obtain ⟨_,t1,k1,k2⟩:=aY h
  obtain ⟨t',q1,q2⟩:=oG l x.2 (j+1) t1 k k1
  exact ⟨t',q1,fun aO h1 h2=>q2 aO h1.2 (Ah k2 h1.1 h2)⟩
 | (false,_)::l,x,j,t,k,h=>oG l x.2 j t k h
theorem ta:∀(l:List ((Nat×Option Nat)×List (Bool×Ty))) (bs:List Nat) (j:Nat) (x:CB l) (t:Tr dt) (k:Tr dt→Option β),Qx l bs j x t k=some r→∃t',k t'=some r∧∀aO:Nat→Option Ob→Prop,yN aO l bs j x→(∀i,aO i (cY t i))→∀i,aO i (cY t' i)
 | [],_,_,_,t,k,h=>⟨t,h,fun aO _ h2=>h2⟩
 | p::l,b::bs,j,x,t,k,h=>by
  obtain ⟨_,t1,k1,k2⟩:=aY h
  obtain ⟨t2,k3,k4⟩:=oG p.2 x.1 j t1 _ k1
  obtain ⟨t',q1,q2⟩:=ta l bs _ x.2 t2 k k3
  exact ⟨t',q1,fun aO h1 h2=>q2 aO h1.2.2 (k4 aO h1.2.1 (Ah k2 h1.1 h2))⟩
 | _::_,[],_,_,_,_,h=>by cases h
structure kA (H:LH) (gE:List Nat) (E:zo) (Fe:Tr A) (he:Go.Bm.H) (s:H.S) (Fc:Tr A) (hc:Go.Bm.H):Prop where
 F:∀aO:Nat→A→Prop,(∀i∈gE,aO i .bR)→(∀i,i∉gE→aO i (aP Fe.get i))→yL aO H.jr s.1→yK aO H.grow he.aL→∀i,aO i (aP Fc.get i)
 t:∀aO:Nat→Option Ob→Prop,(∀i∈E.bX++(E.bs++E.cs),aO i none)→(∀i,i∉E.bX++(E.bs++E.cs)→aO i (cY he.t i))→yO aO H.boxes E.bs s.2.2.1→yN aO H.qG E.cs (he.aL+H.grow.length) s.2.2.2.1→yM aO H.grow he.aL s.2.1→∀i,aO i (cY hc.t i)
 aL:hc.aL=he.aL+H.m
 rg:hc.rg=fQ H.eK s.2.2.2.2 he.rg
theorem qf {H:LH} {gE:List Nat} {E:zo} {Fe:Tr A} {he:Go.Bm.H} {s:H.S} {k:Tr A→Go.Bm.H→Option β} (h:uQ H gE E.bs E.cs E.bX Fe he s k=some r):∃Fc hc,k Fc hc=some r∧kA H gE E Fe he s Fc hc:=by
 obtain ⟨F1,k1,f1⟩:=nE _ _ _ h
 obtain ⟨F2,k2,f2⟩:=s7 _ _ _ _ k1
 obtain ⟨F3,k3,f3⟩:=sZ _ _ _ _ k2
 obtain ⟨t1,k4,e1⟩:=nM _ _ _ k3
 obtain ⟨t2,k5,e2⟩:=tb _ _ _ _ _ k4
 obtain ⟨t3,k6,e3⟩:=ta _ _ _ _ _ _ k5
 obtain ⟨t4,k7,e4⟩:=s_ _ _ _ _ _ k6
 exact ⟨F3,_,k7,fun aO a b c d=>f3 aO d (f2 aO c (f1 aO a b)),fun aO a b c d e=>e4 aO e (e3 aO d (e2 aO c (e1 aO a b))),rfl,rfl⟩
end
end
end Go.Bm