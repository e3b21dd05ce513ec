/- Texts of one proof, put together: see each part. -/
import Derived.Test.YtfffmmahegdfiaaGreatKA
set_option maxHeartbeats 2000000
noncomputable section
set_option linter.unusedVariables false
set_option linter.unusedSimpArgs false
namespace Go.Bm
section
open Go.RowKit
theorem kD {s:Nat}:∀(π σ:List Sp),yV s (π++σ)↔yV s π∧yV s σ
 | [],σ=>⟨fun h=>⟨trivial,h⟩,fun h=>h.2⟩
 | .fst::π,σ=>kD π σ
 | .snd _::π,σ=>kD π σ
 | .ix _ _::π,σ=>(and_congr_right fun _=>kD π σ).trans and_assoc.symm
 | .ai _ _ _::π,σ=>(and_congr_right fun _=>kD π σ).trans and_assoc.symm
theorem iS:∀(π σ:List Sp),cJ (π++σ)=cJ π+cJ σ
 | [],σ=>(Nat.zero_add _).symm
 | .fst::π,σ=>iS π σ
 | .snd c::π,σ=>by show c+cJ (π++σ)=c+cJ π+cJ σ;rw [iS π σ,Nat.add_assoc]
 | .ix i z::π,σ=>by show i*z+cJ (π++σ)=i*z+cJ π+cJ σ;rw [iS π σ,Nat.add_assoc]
 | .ai i n z::π,σ=>by show i*z+cJ (π++σ)=i*z+cJ π+cJ σ;rw [iS π σ,Nat.add_assoc]
section
variable {P:Program} {E:Env} {o:Oper} {ρ:Operand→A} {h:H} {β:Type} {K:A→H→Fp→Option β} {r:β}
theorem Step.y3 {h h':H} {T:Fp} {pv Cw:A} (k:Step P o ρ h h' T pv) (hv:∀g v,V g pv v→V g Cw v):Step P o ρ h h' T Cw where
 out:=k.out
 rd:=k.rd
 ok:=fun S2 hS=>fun r g w a next Q hI hx K'=>k.ok S2 hS r g w a next Q hI hx (fun v g' w' h1 h2 h3=>K' v g' w' (hv _ _ h1) h2 h3)
def ze (v:A) (k:A→Option β):Option β:=match v with
 | .op r o=>opt o (k (.v (.pointer none))) (fun j=>k (.tp (.dq r j) []))
 | .os r z o=>opt o (k .e0) (fun j=>k (.tw (.dq r j) z))
 | .om r o=>opt o (k (.v (.map none))) (fun j=>k (.mp (.dq r j)))
 | v=>k v
theorem uW {v:A} {k:A→Option β} (hr:ze v k=some r):∃v',k v'=some r∧∀g x,V g v x→V g v' x:=by
 unfold ze at hr
 split at hr
 ·rcases gF hr with ⟨e,h1⟩ | ⟨j,e,h1⟩
  ·exact ⟨_,h1,fun g x hv=>by cases hv with | op _ _ _ h0 _=>rw [h0 e];exact .v _⟩
  ·exact ⟨_,h1,fun g x hv=>by cases hv with | op _ _ _ _ h0=>exact h0 j e⟩
 ·rcases gF hr with ⟨e,h1⟩ | ⟨j,e,h1⟩
  ·exact ⟨_,h1,fun g x hv=>by cases hv with | os _ _ _ _ h0 _=>exact h0 e⟩
  ·exact ⟨_,h1,fun g x hv=>by cases hv with | os _ _ _ _ _ h0=>exact h0 j e⟩
 ·rcases gF hr with ⟨e,h1⟩ | ⟨j,e,h1⟩
  ·exact ⟨_,h1,fun g x hv=>by cases hv with | om _ _ _ h0 _=>rw [h0 e];exact .v _⟩
  ·exact ⟨_,h1,fun g x hv=>by cases hv with | om _ _ _ _ h0=>exact h0 j e⟩
 ·exact ⟨_,hr,fun g x hv=>hv⟩
def Out (P:Program) (o:Oper) (ρ:Operand→A) (h:H) (K:A→H→Fp→Option β) (r:β):Prop:=∃pv h' T,K pv h' T=some r∧Step P o ρ h h' T pv
theorem Out.pure {v:A} (hr:K v h .no=some r) (k:∀S2,dH P o ρ S2 S2 v) (hd:∀c,o.op≠.defer c):Out P o ρ h K r:=⟨v,h,.no,hr,.pure k hd⟩
theorem Out.read {v:A} (T:List Nat) (hr:K v h (.rd T)=some r) (k:∀S2,Agree (.rd T) (hp h) S2→dH P o ρ S2 S2 v) (hd:∀c,o.op≠.defer c):Out P o ρ h K r:=⟨v,h,.rd T,hr,.read _ k hd⟩
theorem Out.sp {h':H} {T:Fp} {v:A} (hr:ze v (fun v=>K v h' T)=some r) (k:Step P o ρ h h' T v):Out P o ρ h K r:=by
 obtain ⟨v',h1,h2⟩:=uW hr
 exact ⟨v',h',T,h1,k.y3 h2⟩
def Zt (x:A) (h:H) (K:A→H→Fp→Option β):Option β:=K x h .no
def IT (px:A) (ix:Nat) (h:H) (K:A→H→Fp→Option β):Option β:=match px with
 | .il cs=>match cs[ix]? with
  | some p=>ze p (fun v=>K v h .no)
  | none=>none
 | _=>none
theorem Ep {x:Operand} {ix:Nat} (ho:o.op = .extract x ix) (hr:IT (ρ x) ix h K=some r):Out P o ρ h K r:=by
 unfold IT at hr
 split at hr
 ·rename_i cs hx
  split at hr
  ·rename_i p hp
   exact .sp hr (.pure (fun S2=>tO ho hx hp) (by rw [ho];intro c e;cases e))
  ·cases hr
 ·cases hr
def Am (px py pz:A) (h:H) (K:A→H→Fp→Option β):Option β:=match px with
 | .v (.bool b)=>br b (K py h .no) (K pz h .no)
 | _=>none
theorem Al {x y z:Operand} (ho:o.op = .pick x y z) (hr:Am (ρ x) (ρ y) (ρ z) h K=some r):Out P o ρ h K r:=by
 unfold Am at hr
 split at hr
 ·rename_i b hx
  rcases nZ hr with ⟨rfl,h1⟩ | ⟨rfl,h1⟩
  ·exact .pure h1 (fun S2=>by have:=tL (P:=P) (S:=S2) ho hx;simpa using this) (by rw [ho];intro c e;cases e)
  ·exact .pure h1 (fun S2=>by have:=tL (P:=P) (S:=S2) ho hx;simpa using this) (by rw [ho];intro c e;cases e)
 ·cases hr
def QN (op:BinOp) (k:IntKind) (m n:Int) (K:Value→Option β):Option β:=match op with
 | .add=>K (.int k (ae k m n))
 | .sub=>K (.int k (aI k m n))
 | .mul=>K (.int k (cZ k m n))
 | .quo=>gd (Io n) (K (.int k (x8 k m n)))
 | .rem=>gd (Io n) (K (.int k (gM m n)))
 | .and=>K (.int k (bits .and k m n))
 | .or=>K (.int k (bits .or k m n))
 | .xor=>K (.int k (bits .xor k m n))
 | .andNot=>K (.int k (bits .andNot k m n))
 | .eql=>K (.bool (aj m n))
 | .neq=>K (.bool (ax (aj m n)))
 | .lss=>K (.bool (ba m n))
 | .leq=>K (.bool (b9 m n))
 | .gtr=>K (.bool (ba n m))
 | .geq=>K (.bool (b9 n m))
 | _=>none
theorem EI {op:BinOp} {k:IntKind} {m n:Int} {K:Value→Option β} (hr:QN op k m n K=some r):∃v,K v=some r∧D1 op k m n=some v:=by
 cases op with
 | quo=>
  obtain ⟨h1,h2⟩:=bp (show gd (Io n) (K (.int k (x8 k m n)))=some r from hr)
  exact ⟨_,h2,if_neg h1⟩
 | rem=>
  obtain ⟨h1,h2⟩:=bp (show gd (Io n) (K (.int k (gM m n)))=some r from hr)
  exact ⟨_,h2,if_neg h1⟩
 | _=>first | exact ⟨_,hr,rfl⟩ | cases hr
def Zb (op:BinOp) (k:IntKind) (m n:Int) (K:Value→Option β):Option β:=match op with
 | .shl=>gd (bq n) (K (.int k (ki k m n)))
 | .shr=>gd (bq n) (K (.int k (ir k m n)))
 | _=>none
theorem Hy {op:BinOp} {k:IntKind} {m n:Int} {K:Value→Option β} (hr:Zb op k m n K=some r):∃v,K v=some r∧vm op k m n=some v:=by
 cases op with
 | shl=>
  obtain ⟨h1,h2⟩:=bp (show gd (bq n) (K (.int k (ki k m n)))=some r from hr)
  exact ⟨_,h2,if_neg (by unfold bq at h1;omega)⟩
 | shr=>
  obtain ⟨h1,h2⟩:=bp (show gd (bq n) (K (.int k (ir k m n)))=some r from hr)
  exact ⟨_,h2,if_neg (by unfold bq at h1;omega)⟩
 | _=>cases hr
def GP:BinOp→Bool
 | .shl=>true
 | .shr=>true
 | _=>false
def isEq:BinOp→Bool
 | .eql=>true
 | .neq=>true
 | _=>false
theorem kj {op:BinOp} (h:isEq op=true):op = .eql∨op = .neq:=by cases op<;>first | exact .inl rfl | exact .inr rfl | cases h
def xU (op:BinOp) (b:Bool):Bool:=match op with
 | .eql=>b
 | _=>ax b
theorem mU {op:BinOp} (b:Bool) (h:isEq op=true):xU op b=if op = .eql then b else !b:=by
 rcases kj h with rfl | rfl<;>rfl
def xT (p q:A):Option Bool:=match q with
 | .v (.slice none 0 0)=>match p with
  | .v (.slice none _ _)=>some true
  | .nn _ _=>some false
  | .aa _ _ _ _=>some false
  | .sl _ _ _ _=>some false
  | _=>none
 | _=>none
theorem DH {g:G} {p q:A} {u v:Value} {b:Bool} (h:xT p q=some b) (hp:V g p u) (hq:V g q v):v = .slice none 0 0∧∃A n c,u = .slice A n c∧A.isNone=b:=by
 unfold xT at h
 split at h
 ·cases hq
  refine ⟨rfl,?_⟩
  split at h
  ·cases h;cases hp;exact ⟨_,_,_,rfl,rfl⟩
  ·cases h;cases hp;exact ⟨_,_,_,rfl,rfl⟩
  ·cases h;cases hp;exact ⟨_,_,_,rfl,rfl⟩
  ·cases h;cases hp;exact ⟨_,_,_,rfl,rfl⟩
  ·cases h
 ·cases h
theorem zt (d:Nat) (w:World) {T E:TypeId} (hT:P.underlying T=some (.slice E)) (A:Option Addr) (n c:Nat):(Op.equalIn (d+1) T (.slice A n c) (.slice none 0 0)).run P w = .ok A.isNone w:=by
 cases A<;>simp [Op.equalIn,run_underlying hT]
theorem v_ (w:World) {T E:TypeId} (hT:P.underlying T=some (.slice E)) (A:Option Addr) (n c:Nat):(Op.equalIn 10000 T (.slice A n c) (.slice none 0 0)).run P w = .ok A.isNone w:=zt 9999 w hT A n c
theorem Dz {S:Hp} {op:BinOp} {T T' E:TypeId} {x y:Operand} {b:Bool} (ho:o.op = .binOp op T x y T') (hT:P.underlying T=some (.slice E)) (oA:op = .eql∨op = .neq)
  (hb:xT (ρ x) (ρ y)=some b):dH P o ρ S S (.v (.bool (if op = .eql then b else !b))):=
 .value fun g w a _ hv=>by
  obtain ⟨e2,A,n,c,h1,h2⟩:=DH hb (hv x (by simp [ho,Op.operands])) (hv y (by simp [ho,Op.operands]))
  have dA:=v_ (P:=P) w hT A n c
  rw [h2] at dA
  refine ⟨.bool (if op = .eql then b else !b),?_,.v _⟩
  have iW:(eqGuard op T x y (.slice A n c) (.slice none 0 0)).run P w = .ok () w:=by
   rcases oA with rfl | rfl<;>rfl
  rcases oA with rfl | rfl
  ·have hb:(binOp .eql T (.slice A n c) (.slice none 0 0)).run P w = .ok (.bool b) w:=by
    simp only [binOp];simp [Op.equal,Op.maxDepth,dA]
   simp only [execOp,ho,h1,e2,Sem.run_bind,iW,Result.andThen_ok,if_true,hb,Sem.run_pure]
  ·have hb:(binOp .neq T (.slice A n c) (.slice none 0 0)).run P w = .ok (.bool (!b)) w:=by
    simp only [binOp];simp [Op.equal,Op.maxDepth,dA]
   simp only [execOp,ho,h1,e2,Sem.run_bind,iW,Result.andThen_ok,hb,Sem.run_pure]
   rfl
def Ca (E:Env) (op:BinOp) (T:Nat) (px py:A) (h:H) (K:A→H→Fp→Option β):Option β:=match px,py with
 | .v (.int k m),.v (.int k' n)=>bif GP op then Zb op k m n (fun v=>K (.v v) h .no) else if k=k' then QN op k m n (fun v=>K (.v v) h .no) else none
 | .v (.bool p),.v (.bool q)=>bif isEq op then (match bZ E.cS T with
  | some ⟨.bool,_,_,_,_,_,_⟩=>K (.v (.bool (xU op (pZ p q)))) h .no
  | _=>none) else none
 | px,py=>bif isEq op then (match bZ E.cS T with
  | some e=>match e.d with
   | .pointer _=>match AG px py with
    | some b=>K (.v (.bool (xU op b))) h .no
    | none=>none
   | .slice _=>match xT px py with
    | some b=>K (.v (.bool (xU op b))) h .no
    | none=>none
   | .struct _=>bif gH px && gH py && E.eqs.any (Nat.beq T) then (match px.cells,py.cells with
    | some cs,some ds=>match s_ E 6 T cs ds with
     | some b=>K (.v (.bool (xU op b))) h .no
     | none=>none
    | _,_=>none) else none
   | _=>none
  | none=>none) else none
theorem sI (hE:bL P E) {op:BinOp} {T T':TypeId} {x y:Operand} (ho:o.op = .binOp op T x y T') (hr:Ca E op T (ρ x) (ρ y) h K=some r):Out P o ρ h K r:=by
 have hd:∀c,o.op≠.defer c:=by rw [ho];intro c e;cases e
 unfold Ca at hr
 split at hr
 ·rename_i k m k' n hx hy
  cases hs:GP op with
  | true=>
   rw [hs] at hr
   simp only [cond_true] at hr
   obtain ⟨v,h1,h2⟩:=Hy hr
   exact .pure h1 (fun S2=>xG ho hx hy h2) hd
  | false=>
   rw [hs] at hr
   simp only [cond_false] at hr
   split at hr
   ·rename_i hk;subst hk
    obtain ⟨v,h1,h2⟩:=EI hr
    exact .pure h1 (fun S2=>DB ho hx hy h2) hd
   ·cases hr
 ·rename_i p q hx hy
  obtain ⟨hq,hr⟩:=af hr
  split at hr
  ·rename_i ht
   refine .pure hr (fun S2=>?_) hd
   have:=DA (P:=P) (S:=S2) ho (hE.cS _ _ ht).u hx hy (kj hq)
   rw [mU _ hq]
   rcases kj hq with rfl | rfl<;>exact this
  ·cases hr
 ·obtain ⟨hq,hr⟩:=af hr
  split at hr
  ·rename_i e ht
   split at hr
   ·rename_i el yP
    split at hr
    ·rename_i b hb
     refine .pure hr (fun S2=>?_) hd
     rw [mU _ hq]
     exact xI ho (by rw [(hE.cS _ _ ht).u,yP]) hb (kj hq)
    ·cases hr
   ·rename_i el yP
    split at hr
    ·rename_i b hb
     refine .pure hr (fun S2=>?_) hd
     rw [mU _ hq]
     exact Dz ho (by rw [(hE.cS _ _ ht).u,yP]) (kj hq) hb
    ·cases hr
   ·rename_i fs yP
    obtain ⟨hc,hr⟩:=af hr
    simp only [zC] at hc
    split at hr
    ·rename_i cs ds h1 h2
     split at hr
     ·rename_i b hb
      refine .pure hr (fun S2=>?_) hd
      rw [mU _ hq]
      exact xJ hE ho ht (by rw [yP];rfl) (hE.eqs _ hc.2) hc.1.1 hc.1.2 h1 h2 hb (by omega) (kj hq)
     ·cases hr
    ·cases hr
   ·cases hr
  ·cases hr
def RS (op:UnOp) (px:A) (h:H) (K:A→H→Fp→Option β):Option β:=match op,px with
 | .not,.v (.bool b)=>K (.v (.bool (ax b))) h .no
 | _,_=>none
theorem Ht {op:UnOp} {T:TypeId} {x:Operand} (ho:o.op = .unOp op T x) (hr:RS op (ρ x) h K=some r):Out P o ρ h K r:=by
 unfold RS at hr
 split at hr
 ·rename_i b hx
  exact .pure hr (fun S2=>Du ho hx) (by rw [ho];intro c e;cases e)
 ·cases hr
def ZX (E:Env) (s d:Nat) (px:A) (h:H) (K:A→H→Fp→Option β):Option β:=match bZ E.cS s,bZ E.cS d,px with
 | some _,some ⟨.int k',_,_,_,_,_,_⟩,.v (.int k n)=>if k'=k then K (.v (.int k n)) h .no else K (.v (.int k' (cN k' n))) h .no
 | _,_,_=>none
def Wq (E:Env) (s d:Nat) (px:A) (h:H) (K:A→H→Fp→Option β):Option β:=match bZ E.cS s,bZ E.cS d,px with
 | some _,some ⟨.int k',_,_,_,_,_,_⟩,.v (.int _ n)=>K (.v (.int k' (cN k' n))) h .no
 | _,_,_=>none
theorem I5 (hE:bL P E) {s d:TypeId} {x:Operand} (ho:o.op = .convert s d x) (hr:Wq E s d (ρ x) h K=some r):Out P o ρ h K r:=by
 unfold Wq at hr
 split at hr
 ·rename_i es _ _ _ _ _ _ _ _ _ hs l7 hx
  exact .pure hr (fun S2=>Au ho (by rw [(hE.cS _ _ hs).u];rfl) (hE.cS _ _ l7).u hx) (by rw [ho];intro c e;cases e)
 ·cases hr
def N2 (px:A) (h:H) (K:A→H→Fp→Option β):Option β:=bif A7 px then K px h .no else none
theorem DJ {x:Operand} (ho:o.op = .nilCheck x) (hr:N2 (ρ x) h K=some r):Out P o ρ h K r:=by
 obtain ⟨h1,h2⟩:=af hr
 exact .pure h2 (fun S2=>rI ho h1) (by rw [ho];intro c e;cases e)
end
end
section
open Go.RowKit
section
variable {P:Program} {E:Env} {o:Oper} {ρ:Operand→A} {h:H} {β:Type} {K:A→H→Fp→Option β} {r:β}
def kz:Nat→Ty→Nat→Option (List Sp)
 | 1,_,0=>some []
 | _+2,.pair _ _,0=>some [.fst]
 | n+2,.pair a b,f+1=>match kz (n+1) b f with
  | some π=>some (.snd a.size::π)
  | none=>none
 | _,_,_=>none
theorem ss {s:Nat}:∀(n:Nat) (t:Ty) (f:Nat) (π:List Sp),kz n t f=some π→yV s π
 | 0,_,_,_,h=>by simp [kz] at h
 | 1,_,0,_,h=>by simp [kz] at h;subst h;trivial
 | 1,_,f+1,_,h=>by simp [kz] at h
 | n+2,.pair a b,0,_,h=>by simp [kz] at h;subst h;trivial
 | n+2,.pair a b,f+1,_,h=>by
  simp only [kz] at h
  split at h
  ·rename_i π' h'
   cases h
   exact ss (s:=s) (n+1) b f π' h'
  ·cases h
 | n+2,.int _,f,_,h=>by cases f<;>simp [kz] at h
 | n+2,.bool,f,_,h=>by cases f<;>simp [kz] at h
 | n+2,.unit,f,_,h=>by cases f<;>simp [kz] at h
 | n+2,.arr _ _,f,_,h=>by cases f<;>simp [kz] at h
 | n+2,.aH _,f,_,h=>by cases f<;>simp [kz] at h
 | n+2,.ptr _,f,_,h=>by cases f<;>simp [kz] at h
 | n+2,.cC _,f,_,h=>by cases f<;>simp [kz] at h
 | n+2,.iL _ _,f,_,h=>by cases f<;>simp [kz] at h
 | n+2,.nu _ _,f,_,h=>by cases f<;>simp [kz] at h
 | n+2,.mp _,f,_,h=>by cases f<;>simp [kz] at h
def IN (E:Env) (T f:Nat) (px:A) (h:H) (K:A→H→Fp→Option β):Option β:=match bZ E.cS T with
 | some ⟨.struct fs,_,_,_,_,t,_⟩=>match fs[f]? with
  | some fd=>match bZ E.cS fd.type with
   | some e=>bif Nat.blt 0 e.size then (match px with
    | .ptr o off=>K (.ptr o (off+fd.offset)) h .no
    | .tp X π=>match t with
     | some t=>match kz fs.size t f with
      | some σ=>bif Nat.beq (cJ σ) fd.offset then K (.tp X (π++σ)) h .no else none
      | none=>none
     | none=>none
    | .dp t x=>match kz fs.size t f with
     | some σ=>bif Nat.beq (cJ σ) fd.offset then (match mw σ t x with
      | some s=>K (.dp s.t s.x) h .no
      | none=>none) else none
     | none=>none
    | _=>none) else none
   | none=>none
  | none=>none
 | _=>none
theorem Ei (hE:bL P E) {T f:Nat} {x:Operand} (ho:o.op = .fieldAddr T x f) (hr:IN E T f (ρ x) h K=some r):Out P o ρ h K r:=by
 have hd:∀c,o.op≠.defer c:=by rw [ho];intro c e;cases e
 unfold IN at hr
 split at hr
 ·rename_i fs _ _ _ _ t _ ht
  split at hr
  ·rename_i fd hf
   split at hr
   ·rename_i e he
    obtain ⟨h0,hr⟩:=af hr
    have h0:=aU h0
    have mg:∀{v:A},(∀g u,V g (ρ x) u→∃b off,u = .pointer (some ⟨b,off,none⟩)∧V g v (.pointer (some ⟨b,off+fd.offset,none⟩)))→∀S2,dH P o ρ S2 S2 v:=fun hv S2=>
     xH ho (hE.cS _ _ ht).u hf (hE.cS _ _ he).ti.size (by omega) hv
    split at hr
    ·rename_i q off hx
     refine .pure hr (mg fun g u hu=>?_) hd
     rw [hx] at hu
     cases hu with
     | ptr _ _ b s hb=>exact ⟨b,off,rfl,.ptr _ _ b s hb⟩
    ·rename_i X π hx
     split at hr
     ·rename_i t'
      split at hr
      ·rename_i σ hσ
       obtain ⟨hc,hr⟩:=af hr
       refine .pure hr (mg fun g u hu=>?_) hd
       rw [hx] at hu
       cases hu with
       | tp _ _ b s hb hk=>
        refine ⟨b,cJ π,rfl,?_⟩
        rw [←beq_eq hc,←iS]
        exact .tp X _ b s hb ((kD π σ).2 ⟨hk,ss _ _ _ _ hσ⟩)
      ·cases hr
     ·cases hr
    ·rename_i t' y hx
     split at hr
     ·rename_i σ hσ
      obtain ⟨hc,hr⟩:=af hr
      split at hr
      ·rename_i sg TK
       refine .pure hr (mg fun g u hu=>?_) hd
       rw [hx] at hu
       cases hu with
       | dp _ _ b off f hm=>
        obtain ⟨a,c,q1,q2⟩:=lg σ t' y 0 sg TK (ss _ _ _ _ hσ)
        refine ⟨b,off,rfl,.dp sg.t sg.x b _ (fun j=>f (cJ σ+j)) (fun j d hj=>?_)⟩
        have:=hm (cJ σ+j) d (by
         rw [q1,zJ (by omega),show cJ σ+j-a.length=j by omega,zK (zB.1 hj).1];exact hj)
        rw [←beq_eq hc,Nat.add_assoc]
        exact this
      ·cases hr
     ·cases hr
    ·cases hr
   ·cases hr
  ·cases hr
 ·cases hr
def Q3:Nat→Nat→Int→(Nat→Option β)→Option β
 | 0,_,_,_=>none
 | n+1,i,m,k=>br (aj m (zN i)) (k i) (Q3 n (i+1) m k)
theorem uV {m:Int} {k:Nat→Option β}:∀(n i:Nat),Q3 n i m k=some r→∃j,k j=some r∧m=((j:Nat):Int)∧i≤j∧j<i+n
 | 0,i,h=>by cases h
 | n+1,i,h=>by
  rcases nZ h with ⟨e,h1⟩ | ⟨e,h1⟩
  ·exact ⟨i,h1,of_decide_eq_true e,Nat.le_refl _,by omega⟩
  ·obtain ⟨j,k1,k2,k3,k4⟩:=uV n (i+1) h1
   exact ⟨j,k1,k2,by omega,by omega⟩
def Ti:Operand→Option Nat
 | .const (.int _ (.ofNat n))=>some n
 | _=>none
theorem l3 {n:Int} (h:bq n):((nN n:Nat):Int)=n:=Int.toNat_of_nonneg h
def Tp (E:Env) (T:Nat) (px:A) (y:Operand) (py:A) (h:H) (K:A→H→Fp→Option β):Option β:=match py with
 | .v (.int _ n)=>match bZ E.cS T with
  | some ⟨.array len el,_,_,_,_,_,_⟩=>match bZ E.cS el with
   | some e=>match px with
    | .ptr q off=>match Ti y with
     | some i=>gd (neq (nN n) i) (bif Nat.blt i len then gd (bq n) (K (.ptr q (off+i*e.size)) h .no) else none)
     | none=>Q3 len 0 n (fun i=>K (.ptr q (off+i*e.size)) h .no)
    | .tp X π=>gd (bq n) (gd (bx (nN n) len) (K (.tp X (π++[.ai (nN n) len e.size])) h .no))
    | .dp t x=>gd (bq n) (gd (bx (nN n) len) (bif Nat.blt 0 e.size then (match mw [.ai (nN n) len e.size] t x with
     | some s=>K (.dp s.t s.x) h .no
     | none=>none) else none))
    | _=>none
   | none=>none
  | some ⟨.slice el,_,_,_,_,_,_⟩=>match bZ E.cS el with
   | some e=>bif Nat.blt 0 e.size then (match px with
    | .tl t _ l=>bif Nat.beq t.size e.size then gd (bq n) (gd (bx (nN n) (len l)) (K (.dp t (nth t.cg l (nN n))) h .no)) else none
    | .tw X z=>bif Nat.beq z e.size then hP h X (fun t l=>bif Nat.beq z t.size then gd (bq n) (gd (bx (nN n) (len l)) (K (.tp X [.ix (nN n) z]) h (.rd [gT X]))) else none) else none
    | .ts X z off m=>bif Nat.beq z e.size then gd (bq n) (gd (bx (nN n) m) (K (.tp X [.ix (aL off (nN n)) z]) h .no)) else none
    | .tf X z off m=>bif Nat.beq z e.size then gd (bq n) (gd (bx (nN n) m) (K (.tp X [.ix (aL off (nN n)) z]) h .no)) else none
    | .aa X π m z=>bif Nat.beq z e.size then gd (bq n) (gd (bx (nN n) m) (K (.tp X (π++[.ai (nN n) m z])) h .no)) else none
    | .sl q off z m=>bif Nat.beq z e.size then Q3 m 0 n (fun i=>K (.ptr q (off+i*z)) h .no) else none
    | _=>none) else none
   | none=>none
  | _=>none
 | _=>none
theorem Ej {t:Ty} {l:List t.T} {i:Nat} (hi:i<l.length) {j:Nat} {c:D} (hj:(cq t (nth t.cg l i))[j]?=some c):(l.map (cq t)).flatten[i*t.size+j]?=some c:=by
 have e:l=l.take i++nth t.cg l i::l.drop (i+1):=by
  rw [show nth t.cg l i=l[i] by simp [nth,zA,zD hi],List.getElem_cons_drop,zP]
 have hl:((l.take i).flatMap (cq t)).length=i*t.size:=by
  have:∀m:List t.T,(m.flatMap (cq t)).length=m.length*t.size:=fun m=>by
   induction m with
   | nil=>simp
   | cons a m ih=>rw [List.flatMap_cons,zY,ih,de,zR,Nat.succ_mul,Nat.add_comm]
  rw [this,List.length_take,Nat.min_eq_left (Nat.le_of_lt hi)]
 rw [j0]
 conv=>lhs;rw [e]
 rw [List.flatMap_append,List.flatMap_cons,zJ (by omega),hl,show i*t.size+j-i*t.size=j by omega,zK (zB.1 hj).1]
 exact hj
theorem Il (hE:bL P E) {T:Nat} {x y:Operand} (ho:o.op = .indexAddr T x y) (hr:Tp E T (ρ x) y (ρ y) h K=some r):Out P o ρ h K r:=by
 have hd:∀c,o.op≠.defer c:=by rw [ho];intro c e;cases e
 unfold Tp at hr
 split at hr
 ·rename_i k n hy
  split at hr
  ·rename_i len el _ _ _ _ _ _ ht
   split at hr
   ·rename_i e he
    have mg:∀{v:A},0≤n∧n<len→(∀g u,V g (ρ x) u→∃b off,u = .pointer (some ⟨b,off,none⟩)∧V g v (.pointer (some ⟨b,off+n.toNat*e.size,none⟩)))→∀S2,dH P o ρ S2 S2 v:=fun hn hv S2=>
     qo ho (hE.cS _ _ ht).u (hE.cS _ _ he).ti.size hy hn hv
    split at hr
    ·rename_i q off hx
     have ptr:∀i:Nat,n.toNat=i→∀g u,V g (ρ x) u→∃b NY,u = .pointer (some ⟨b,NY,none⟩)∧V g (.ptr q (off+i*e.size)) (.pointer (some ⟨b,NY+n.toNat*e.size,none⟩)):=fun i hi g u hu=>by
      rw [hx] at hu
      cases hu with
      | ptr _ _ b s hb=>exact ⟨b,off,rfl,by rw [hi];exact .ptr _ _ b s hb⟩
     split at hr
     ·rename_i i _
      obtain ⟨h1,hr⟩:=bp hr
      obtain ⟨h2,hr⟩:=af hr
      obtain ⟨h3,hr⟩:=bp hr
      have h4:=l3 h3
      have h1:nN n=i:=h1
      have h5:=aU h2
      exact .pure hr (mg ⟨h3,by omega⟩ (ptr i h1)) hd
     ·obtain ⟨i,h1,h2,h3,h4⟩:=uV _ _ hr
      exact .pure h1 (mg ⟨by omega,by omega⟩ (ptr i (by omega))) hd
    ·rename_i X π hx
     obtain ⟨h3,hr⟩:=bp hr
     obtain ⟨h4,hr⟩:=bp hr
     have h5:=l3 h3
     have h4:nN n<len:=h4
     refine .pure hr (mg ⟨h3,by omega⟩ (fun g u hu=>?_)) hd
     rw [hx] at hu
     cases hu with
     | tp _ _ b s hb hk=>
      refine ⟨b,cJ π,rfl,?_⟩
      have:=V.tp (g:=g) X (π++[.ai (nN n) len e.size]) b s hb ((kD π [.ai (nN n) len e.size]).2 ⟨hk,show nN n<len∧True from ⟨h4,trivial⟩⟩)
      rw [iS] at this
      exact this
    ·rename_i t z hx
     obtain ⟨h3,hr⟩:=bp hr
     obtain ⟨h4,hr⟩:=bp hr
     obtain ⟨_,hr⟩:=af hr
     have h5:=l3 h3
     have h4:nN n<len:=h4
     split at hr
     ·rename_i sg TK
      refine .pure hr (mg ⟨h3,by omega⟩ (fun g u hu=>?_)) hd
      rw [hx] at hu
      cases hu with
      | dp _ _ b off f hm=>
       obtain ⟨a,c,q1,q2⟩:=lg _ t z 0 sg TK ⟨h4,trivial⟩
       have q2:a.length=nN n*e.size:=q2
       refine ⟨b,off,rfl,.dp sg.t sg.x b _ (fun j=>f (nN n*e.size+j)) (fun j d hj=>?_)⟩
       have:=hm (nN n*e.size+j) d (by
        rw [q1,zJ (by omega),show nN n*e.size+j-a.length=j by omega,zK (zB.1 hj).1];exact hj)
       rw [Nat.add_assoc]
       exact this
     ·cases hr
    ·cases hr
   ·cases hr
  ·rename_i el _ _ _ _ _ _ ht
   split at hr
   ·rename_i e he
    obtain ⟨h0,hr⟩:=af hr
    have h0:=aU h0
    have mg:∀{v:A} {S2:Hp},(∀g w u,Inv g S2 w→V g (ρ x) u→∃b off m cap,u = .slice (some ⟨b,off,none⟩) m cap∧(0≤n∧n<m)∧V g v (.pointer (some ⟨b,off+n.toNat*e.size,none⟩)))→dH P o ρ S2 S2 v:=fun hv=>
     rK ho (hE.cS _ _ ht).u (hE.cS _ _ he).ti.size hy hv
    split at hr
    ·rename_i t f l hx
     obtain ⟨h1,hr⟩:=af hr
     obtain ⟨h3,hr⟩:=bp hr
     obtain ⟨h4,hr⟩:=bp hr
     have h5:=l3 h3
     have h4:nN n<l.length:=h4
     refine .pure hr (fun S2=>mg (fun g w u hI hu=>?_)) hd
     rw [hx] at hu
     cases hu with
     | tl _ _ _ _ hv=>
      rw [←beq_eq h1] at *
      generalize oJ:List.map (cq t) l=es at hv
      have nT:es.length=l.length:=by rw [←oJ,zH]
      cases hv with
      | rn=>simp at nT;omega
      | sl _ _ _ a cap vs hz hc hf hn og hl hm CE=>
       obtain ⟨p,rfl⟩:∃p,a=some p:=by
        cases a with
        | none=>have:=hn rfl;omega
        | some p=>exact ⟨p,rfl⟩
       refine ⟨p.1,p.2,es.length,cap,rfl,⟨h3,by omega⟩,.dp t _ p.1 _ (fun j=>vs.getD (nN n*t.size+j) undef) (fun j c hj=>?_)⟩
       have CI:=Ej (t:=t) (l:=l) h4 hj
       rw [oJ] at CI
       have fp:=(zB.1 CI).1
       have yN:vs[nN n*t.size+j]?=some (vs.getD (nN n*t.size+j) undef):=by
        rw [zA,zD (by rw [←hl];exact fp)];rfl
       refine ⟨?_,CE _ c _ CI yN⟩
       have:=hm p _ _ rfl yN
       rw [Nat.add_assoc];exact this
    ·rename_i X z hx
     obtain ⟨h1,hr⟩:=af hr
     obtain rfl:=beq_eq h1
     obtain ⟨t,l,hr,hX,dI⟩:=dz hr
     obtain ⟨h2,hr⟩:=af hr
     obtain ⟨h3,hr⟩:=bp hr
     obtain ⟨h4,hr⟩:=bp hr
     have h5:=l3 h3
     have h4:nN n<l.length:=h4
     have h2:=beq_eq h2
     refine .read _ hr (fun S2 hA=>mg (fun g w u hI hu=>?_)) hd
     have dc:=(hA _ (bB hX (.head _))).1.trans dI
     rw [hx] at hu
     cases hu with
     | qE _ _ ad bG=>
      rcases hI.cells _ _ dc with ⟨_,k2⟩ | ⟨b,tt,k1,_⟩
      ·have:=bb t l
       rw [k2] at this
       have:0<l.length*t.size:=Nat.mul_pos (by omega) (by omega)
       simp at *;omega
      ·rw [k1] at bG;cases bG
     | tw _ _ m b cap tt bG hn og hp d l7=>
      rcases hI.cells _ _ dc with ⟨k1,_⟩ | ⟨b',CU,k1,_⟩
      ·rw [k1] at bG;cases bG
      have IG:=bG
      rw [k1] at bG
      simp only [zI,zU] at bG
      obtain ⟨rfl,hlen,_⟩:=bG
      rw [bb,h2] at hlen
      have hm:l.length=m:=Nat.eq_of_mul_eq_mul_right (by omega) hlen
      refine ⟨b',d,m,cap,rfl,⟨h3,by omega⟩,?_⟩
      obtain rfl:=l7 (by omega)
      have:=V.tp (g:=g) X [.ix (nN n) e.size] b' _ IG ⟨zW _ (by omega),trivial⟩
      rw [show cJ [.ix (nN n) e.size]=nN n*e.size from rfl] at this
      rw [Nat.zero_add];exact this
    ·rename_i X z off m hx
     obtain ⟨h1,hr⟩:=af hr
     obtain rfl:=beq_eq h1
     obtain ⟨h3,hr⟩:=bp hr
     obtain ⟨h4,hr⟩:=bp hr
     have h5:=l3 h3
     have h4:nN n<m:=h4
     refine .pure hr (fun S2=>mg (fun g w u hI hu=>?_)) hd
     rw [hx] at hu
     cases hu with
     | qG _ _ _ _ _ _ hn=>omega
     | ts _ _ _ _ b cap s bG hn og hs hp d l7=>
      refine ⟨b,d,m,cap,rfl,⟨h3,by omega⟩,?_⟩
      obtain rfl:=l7 (by omega)
      have:=V.tp (g:=g) X [.ix (aL off (nN n)) e.size] b _ bG ⟨Nat.le_trans (zW _ (show aL off (nN n)+1≤off+m by unfold aL;omega)) hs,trivial⟩
      rw [show cJ [.ix (aL off (nN n)) e.size]=(off+nN n)*e.size from rfl,Nat.add_mul] at this
      exact this
    ·rename_i X z off m hx
     obtain ⟨h1,hr⟩:=af hr
     obtain rfl:=beq_eq h1
     obtain ⟨h3,hr⟩:=bp hr
     obtain ⟨h4,hr⟩:=bp hr
     have h5:=l3 h3
     have h4:nN n<m:=h4
     refine .pure hr (fun S2=>mg (fun g w u hI hu=>?_)) hd
     rw [hx] at hu
     cases hu with
     | zc _ _ _ _ _ _ hn=>omega
     | tf _ _ _ _ b s bG og hs d l7=>
      refine ⟨b,d,m,m,rfl,⟨h3,by omega⟩,?_⟩
      obtain rfl:=l7 (by omega)
      have:=V.tp (g:=g) X [.ix (aL off (nN n)) e.size] b _ bG ⟨Nat.le_trans (zW _ (show aL off (nN n)+1≤off+m by unfold aL;omega)) hs,trivial⟩
      rw [show cJ [.ix (aL off (nN n)) e.size]=(off+nN n)*e.size from rfl,Nat.add_mul] at this
      exact this
    ·rename_i X π m z hx
     obtain ⟨h1,hr⟩:=af hr
     obtain rfl:=beq_eq h1
     obtain ⟨h3,hr⟩:=bp hr
     obtain ⟨h4,hr⟩:=bp hr
     have h5:=l3 h3
     have h4:nN n<m:=h4
     refine .pure hr (fun S2=>mg (fun g w u hI hu=>?_)) hd
     rw [hx] at hu
     cases hu with
     | aa _ _ _ _ b cap s bG hk hn og=>
      refine ⟨b,cJ π,m,cap,rfl,⟨h3,by omega⟩,?_⟩
      have:=V.tp (g:=g) X (π++[.ai (nN n) m e.size]) b s bG ((kD π [.ai (nN n) m e.size]).2 ⟨hk,show nN n<m∧True from ⟨h4,trivial⟩⟩)
      rw [iS] at this
      exact this
    ·rename_i q off z m hx
     obtain ⟨h1,hr⟩:=af hr
     obtain rfl:=beq_eq h1
     obtain ⟨i,k1,k2,k3,k4⟩:=uV _ _ hr
     refine .pure k1 (fun S2=>mg (fun g w u hI hu=>?_)) hd
     rw [hx] at hu
     cases hu with
     | sl _ _ _ _ b cap s bG hn og hs=>
      refine ⟨b,off,m,cap,rfl,⟨by omega,by omega⟩,?_⟩
      rw [show n.toNat=i by omega]
      exact .ptr _ _ b s bG
    ·cases hr
   ·cases hr
  ·cases hr
 ·cases hr
end
end
section
open Go.RowKit
section
variable {P:Program} {E:Env} {o:Oper} {ρ:Operand→A} {h:H} {β:Type} {K:A→H→Fp→Option β} {r:β}
def Ii (E:Env) (T:Nat) (px:A) (h:H) (K:A→H→Fp→Option β):Option β:=match bZ E.cS T with
 | some e=>match px with
  | .ptr q off=>bif Nat.blt q 16777216 then (match h.t.get q with
   | some (.cells cs)=>bif iy e.d then (bif Nat.ble (off+e.size) cs.length then K (.agg ((cs.drop off).take e.size)) h (.rd [cE q]) else none) else (match cs[off]? with
    | some c=>ze c (fun v=>K v h (.rd [cE q]))
    | none=>none)
   | _=>none) else none
  | .tp X π=>pf h X π (fun s=>bif Nat.beq s.t.size e.size then (bif iy e.d then K (.agg (aA s.t s.x)) h (.rd [gT X]) else (match aA s.t s.x with
   | [c]=>ze c (fun v=>K v h (.rd [gT X]))
   | _=>none)) else none)
  | .dp t x=>bif t.data && Nat.beq t.size e.size then (bif iy e.d then K (.agg (aA t x)) h .no else (match aA t x with
   | [c]=>ze c (fun v=>K v h .no)
   | _=>none)) else none
  | _=>none
 | none=>none
theorem AQ (hE:bL P E) {T:Nat} {px:A} (hr:Ii E T px h K=some r):∃v l,K v h (.rd l)=some r∧∀S2,Agree (.rd l) (hp h) S2→∀(o:Oper) (ρ:Operand→A) (x:Operand),o.op = .load T x→ρ x=px→Cn P o ρ S2 v:=by
 have sp:∀{c:A} {l:List Nat},ze c (fun v=>K v h (.rd l))=some r→(∀S2,Agree (.rd l) (hp h) S2→∀(o:Oper) (ρ:Operand→A) (x:Operand),o.op = .load T x→ρ x=px→Cn P o ρ S2 c) →
   ∃v l,K v h (.rd l)=some r∧∀S2,Agree (.rd l) (hp h) S2→∀(o:Oper) (ρ:Operand→A) (x:Operand),o.op = .load T x→ρ x=px→Cn P o ρ S2 v:=fun h1 h2=>by
  obtain ⟨v,k1,k2⟩:=uW h1
  exact ⟨v,_,k1,fun S2 hA o ρ x ho hx g w a hI hv=>let ⟨u,q1,q2⟩:=h2 S2 hA o ρ x ho hx g w a hI hv;⟨u,q1,k2 g u q2⟩⟩
 unfold Ii at hr
 split at hr
 ·rename_i e ht
  have hk:=hE.cS _ _ ht
  split at hr
  ·rename_i q off
   obtain ⟨hq,hr⟩:=af hr
   have hq:=aU hq
   split at hr
   ·rename_i cs hg
    have dI:(hp h).ob q=some (.cells cs):=by rw [iV hq];unfold et;rw [hg];rfl
    cases ha:iy e.d with
    | true=>
     rw [ha] at hr;simp only [cond_true] at hr
     obtain ⟨h1,hr⟩:=af hr
     exact ⟨_,_,hr,fun S2 hA o ρ x ho hx=>mT ho hk.u ha hk.ti.size (by rw [hx];rfl) ((hA q (aB hq (.head _))).1.trans dI) (Nat.le_of_ble_eq_true h1)⟩
    | false=>
     rw [ha] at hr;simp only [cond_false] at hr
     split at hr
     ·rename_i c hc
      exact sp hr (fun S2 hA o ρ x ho hx=>tK ho hk.u ha (by rw [hx];rfl) ((hA q (aB hq (.head _))).1.trans dI) hc)
     ·cases hr
   ·cases hr
  ·rename_i X π
   obtain ⟨sg,h1,hX,h2⟩:=qP hr
   obtain ⟨h3,h1⟩:=af h1
   have h3:=beq_eq h3
   have bg:∀{S2:Hp} {v:A} {o:Oper} {ρ:Operand→A} {x:Operand},o.op = .load T x→ρ x = .tp X π→Agree (.rd [gT X]) (hp h) S2→(∀a c,S2.ob X.id=some (.cells (a++(aA sg.t sg.x++c)))→a.length=cJ π→Cn P o ρ S2 v)→Cn P o ρ S2 v:=fun {S2 v o ρ x} ho hx hA k=>.bg fun g w a hI hv=>by
    have CF:=hv x (by simp [ho,Op.operands])
    rw [hx] at CF
    have ha:=hA _ (bB hX (.head _))
    obtain ⟨a,c,q1,q2⟩:=h2 g _ w _ hI ha.1 ha.2 CF
    exact k a c q1 q2
   have tZ:∀{ρ:Operand→A} {x:Operand},ρ x = .tp X π→Pl (ρ x)=some (X.id,cJ π):=fun hx=>by rw [hx];rfl
   cases ha:iy e.d with
   | true=>
    rw [ha] at h1;simp only [cond_true] at h1
    refine ⟨_,_,h1,fun S2 hA o ρ x ho hx=>bg ho hx hA fun a c q1 q2=>?_⟩
    have:=mT (P:=P) ho hk.u ha hk.ti.size (tZ hx) q1 (by simp only [zY,bH];omega)
    rwa [←q2,List.drop_left,←h3,←bH sg.t sg.x,List.take_left] at this
   | false=>
    rw [ha] at h1;simp only [cond_false] at h1
    split at h1
    ·rename_i c0 CJ
     refine sp h1 (fun S2 hA o ρ x ho hx=>bg ho hx hA fun a c q1 q2=>?_)
     refine tK ho hk.u ha (tZ hx) q1 ?_
     rw [←q2,zJ (Nat.le_refl _),Nat.sub_self,CJ];rfl
    ·cases h1
  ·rename_i t y
   obtain ⟨h1,hr⟩:=af hr
   simp only [zC] at h1
   have h3:=beq_eq h1.2
   cases ha:iy e.d with
   | true=>
    rw [ha] at hr;simp only [cond_true] at hr
    exact ⟨_,[],hr,fun S2 _ o ρ x ho hx=>od ho hk.u (by rw [h3];exact hk.ti.size) hx h1.1 (by rw [ha,if_pos rfl])⟩
   | false=>
    rw [ha] at hr;simp only [cond_false] at hr
    split at hr
    ·rename_i c0 CJ
     exact sp (l:=[]) hr (fun S2 _ o ρ x ho hx=>od ho hk.u (by rw [h3];exact hk.ti.size) hx h1.1 (by rw [ha,if_neg (by simp)];exact CJ))
    ·cases hr
  ·cases hr
 ·cases hr
theorem Ih (hE:bL P E) {T:Nat} {x:Operand} (ho:o.op = .load T x) (hr:Ii E T (ρ x) h K=some r):Out P o ρ h K r:=by
 have hd:∀c,o.op≠.defer c:=by rw [ho];intro c e;cases e
 obtain ⟨v,l,k1,k2⟩:=AQ hE hr
 exact .read _ k1 (fun S2 hA=>.value (k2 S2 hA o ρ x ho rfl)) hd
def qC (P:Program) (o:Oper) (S S':Hp) (pv:A) (g:G) (w:World) (a:Act):Prop:=
 ∀(next:Act→World→Prop) (Q:Exit→Act→World→Prop),(∀v g' w',V g' pv v→Inv g' S' w'→Ext S g w S' g' w'→next (a.put o.dst v) w')→o.wp P a w next Q
theorem qC.pre {S S1 S':Hp} {pv:A} {g g1:G} {w:World} {a:Act} (k:qC P o S1 S' pv g1 w a) (e:Ext S g w S1 g1 w):qC P o S S' pv g w a:=fun next Q K=>k next Q (fun v g' w' h1 h2 h3=>K v g' w' h1 h2 (e.trans h3))
theorem zd {S:Hp} {T:TypeId} {x y:Operand} {p off n:Nat} {cs ps:List A} {g:G} {w:World} {a:Act} (ho:o.op = .store T x y) (hs:dv P T n) (hI:Inv g S w) (hx:∃b s,g.bg p=some (some b,s)∧a.eval x = .pointer (some ⟨b,off,none⟩)) (hy:Vs g ps (a.eval y).cells.toList) (hl:ps.length=n)
  (hp:S.ob p=some (.cells cs)) (hn:off+n≤cs.length):qC P o S (S.set p (.cells (put cs off ps))) .b8 g w a:=by
 intro next Q K
 obtain ⟨b,s,h,hu⟩:=hx
 obtain ⟨cur,ty,k2,nw,h3,h4⟩:=hI.store (off:=off) hp h hy (by omega)
 unfold Oper.wp
 have nx:(a.eval y).cells.size=n:=by have:=hy.1;simp at this;omega
 have sY:=run_storeCells_at P b off ty (a.eval y).cells.toList 0 cur w k2 (by simpa using nw) hy.one
 simp only [execOp,ho,hu,Instr.storeAt,Instr.sureAddr,pure_bind,storeVar,Sem.run_bind,hs.run w,Result.andThen_ok,nx,ne_eq,not_true_eq_false,if_false]
 simp only [Nat.add_zero] at sY
 simp only [sY,Result.andThen_ok,Sem.run_pure]
 exact K _ g _ (.b8 _) h3 h4
theorem Dr {T:Fp} {us:List Up} {S' S2:Hp} (hT:∀u∈us,aF T u.id=true):gL T S' (app us S2)=gL T S' S2:=by
 refine Hp.ext' (fun i=>?_) (fun i=>?_)
 ·show (if aF T i=true then _ else _)=(if aF T i=true then _ else _)
  split
  ·rfl
  ·rename_i hi;exact (ct us S2 i (fun u hu e=>hi (e▸hT u hu))).1
 ·show (if aF T i=true then _ else _)↔(if aF T i=true then _ else _)
  split
  ·exact Iff.rfl
  ·rename_i hi;exact (ct us S2 i (fun u hu e=>hi (e▸hT u hu))).2
def SS (E:Env) (T:Nat) (px py:A) (h:H) (K:A→H→Fp→Option β):Option β:=match bZ E.cS T,py.cells with
 | some e,some ps=>match px with
  | .ptr q off=>bif Nat.blt q 16777216 then (match h.t.get q with
   | some (.cells cs)=>bif Nat.beq ps.length e.size && Nat.ble (off+e.size) cs.length && !(tV h (cE q)) then dK h.t q (some (.cells (put cs off ps))) (fun t1=>K .b8 { h with t:=t1 } (.wr [cE q])) else none
   | _=>none) else none
  | .tp X π=>match plT h X π with
   | some u=>bif Nat.beq u.size e.size then (IP u ps h (fun rG h1 T1=>match nv u rG with
     | some y=>ov h1 X π u y (fun h2=>K .b8 h2 (.wr (gT X::T1)))
     | none=>none)) else none
   | none=>none
  | _=>none
 | _,_=>none
theorem nB {T U:List Nat} {w:Bool} {s:List Nat} {i:Nat} (hU:∀j∈U,j∈T) (k:aF ⟨false,T,w,s⟩ i=false):aF ⟨false,U,w,s⟩ i=false:=by
 cases hx:aF ⟨false,U,w,s⟩ i with
 | false=>rfl
 | true=>rw [dJ hU hx] at k;cases k
theorem Hw (hE:bL P E) {T:Nat} {x y:Operand} (ho:o.op = .store T x y) (hr:SS E T (ρ x) (ρ y) h K=some r):Out P o ρ h K r:=by
 have hd:∀c,o.op≠.defer c:=by rw [ho];intro c e;cases e
 unfold SS at hr
 split at hr
 ·rename_i e ps ht qy
  have hk:=hE.cS _ _ ht
  split at hr
  ·rename_i q off hx
   obtain ⟨hq,hr⟩:=af hr
   have hq:=aU hq
   split at hr
   ·rename_i cs hg
    have dI:(hp h).ob q=some (.cells cs):=by rw [iV hq];unfold et;rw [hg];rfl
    obtain ⟨h1,hr⟩:=af hr
    simp only [zC] at h1
    obtain ⟨_,t1,k1,k2⟩:=bh hr
    exact ⟨_,_,_,k1,.of [.set q (.cells (put cs off ps))] (nS (x:=.cells (put cs off ps)) hq k2) rfl (fun u hu=>by rcases zF.1 hu with rfl;exact aB (o:=q) hq (.head _))
     (fun S2 hA=>xE ho hk.ti.size (by rw [hx];rfl) qy (beq_eq h1.1.1) ((hA q (aB hq (.head _))).1.trans dI) (Nat.le_of_ble_eq_true h1.1.2)) hd⟩
   ·cases hr
  ·rename_i X π hx
   split at hr
   ·rename_i u hu
    obtain ⟨Is,hr⟩:=af hr
    obtain ⟨rG,h1,T1,hr,us,c1,c2,c3⟩:=Eo hr
    split at hr
    ·rename_i y' hy
     obtain ⟨h2,k1,hX,k2,k3⟩:=C1 hr
     have yO:∀u∈us,aF (Fp.wr (gT X::T1)) u.id=true:=fun u hu=>dJ (fun i hi=>.tail _ hi) (c2 u hu)
     have out:∀i,aF (Fp.wr (gT X::T1)) i=false→(hp h2).ob i=(hp h).ob i∧((hp h2).fr i↔(hp h).fr i):=fun i hi=>by
      have e1:=k2 i (nB (T:=gT X::T1) (fun j hj=>by rcases zF.1 hj with rfl;exact .head _) hi)
      have e2:=ct us (hp h) i (fun u hu e=>by have:=yO u hu;rw [←e] at this;rw [show aF (Fp.wr (gT X::T1)) i=false from hi] at this;cases this)
      rw [←c1] at e2
      exact ⟨e1.1.trans e2.1,e1.2.trans e2.2⟩
     refine ⟨_,_,_,k1,⟨out,fun i hi=>out i (qD hi),fun S2 hA=>?_⟩⟩
     ·refine dH.GG (fun g w a next Q hI hv K'=>?_) hd
      have sX:=hv x (by simp [ho,Op.operands])
      have TB:=(hv y (by simp [ho,Op.operands])).cells qy
      obtain ⟨g1,q1,q2,q3⟩:=c3 g S2 w _ hI (hA.mono fun i hi=>.tail _ hi) TB
      obtain ⟨z1,z2⟩:=hJ (g:=g1) u rG y' hy
      have JT:Agree (Fp.wr (gT X::T1)) (hp h1) (app us S2):=by rw [c1];exact Agree.app us hA
      rw [hx] at sX
      have Oh:=sX.mono q2.le
      obtain ⟨cs,w1,w2,w3⟩:=k3 (gT X::T1) (.head _) g1 _ w _ q1 JT Oh
      have tZ:∃b s,g1.bg X.id=some (some b,s)∧a.eval x = .pointer (some ⟨b,cJ π,none⟩):=Oh.pl rfl
      have nx:=beq_eq Is
      have st:=zd (P:=P) ho hk.ti.size q1 tZ (z2 _ q3) (by rw [bH,nx]) w1 (by rw [←nx];exact w2)
      rw [←w3,Dr yO] at st
      exact (st.pre q2) next Q K'
    ·cases hr
   ·cases hr
  ·cases hr
 ·cases hr
def lR (x:fu) (h:H) (k:Nat→H→Option β):Option β:=dK h.t h.aQ (some x) (fun t1=>k h.aQ { h with t:=t1,aQ:=h.aQ+1 })
theorem eM {x:fu} {k:Nat→H→Option β} (hr:lR x h k=some r):∃h',k h.aQ h'=some r∧h.aQ<16777216∧(hp h).fr h.aQ∧hp h'=app [.new h.aQ x.low] (hp h):=by
 obtain ⟨hq,t1,k1,k2⟩:=bh hr
 have hq:h.aQ<16777216:=xW hq
 refine ⟨_,k1,hq,?_,Bg hq k2⟩
 have e:(if h.aQ<cb then h.aQ≤h.aQ else eV h.rg h.aQ)=(h.aQ≤h.aQ):=if_pos hq
 show (if h.aQ<cb then h.aQ≤h.aQ else eV h.rg h.aQ)
 rw [e];exact Nat.le_refl _
theorem mo {S:Hp} {T:TypeId} {i:TypeInfo} {z:Value} {q:Nat} {zs:List A} (ho:o.op = .alloc T) (hi:P.info? T=some i) (hz:i.zero=some z) (Og:Zs zs z) (hf:S.fr q) :
  dH P o ρ S (S.new q (.cells zs)) (.ptr q 0):=by
 intro g w a next Q hI hv K
 have Zz:=Og g
 obtain ⟨h1,h2⟩:=hI.kC hf (cs:=zs) (vs:=z.cells) T (by have:=Zz.1;simp at this ⊢;omega) Zz.all
 unfold Oper.wp
 simp only [execOp,ho,Instr.alloc,Sem.run_bind,zeroValue,typeInfo,run_program,Result.andThen_ok,hi,hz,Sem.run_pure,newVar,newRow,run_newObj]
 exact K _ _ _ (.ptr _ _ w.heap.size _ bU) h1 h2
theorem V.Ag {g:G} {q:Nat} {v:Value} (hv:V g (.ptr q 0) v):V g (.tp (.loc q) []) v:=by
 cases hv with
 | ptr _ _ b s hb=>exact .tp (.loc q) [] b s hb trivial
def Jr (E:Env) (T:Nat) (h:H) (K:A→H→Fp→Option β):Option β:=match bZ E.cS T with
 | some e=>bif e.lt then (match e.t with
  | some t=>lR (.one t t.cg) h (fun q h'=>K (.tp (.loc q) []) h' (.wr [cE q]))
  | none=>none) else lR (.cells (iH e.zero)) h (fun q h'=>K (.ptr q 0) h' (.wr [cE q]))
 | none=>none
theorem ER (hE:bL P E) {T:Nat} (ho:o.op = .alloc T) (hr:Jr E T h K=some r):Out P o ρ h K r:=by
 have hd:∀c,o.op≠.defer c:=by rw [ho];intro c e;cases e
 unfold Jr at hr
 split at hr
 ·rename_i e ht
  have hk:=hE.cS _ _ ht
  obtain ⟨i,t1,t2,t3,t4,t5,t6⟩:=hk.ti
  cases hl:e.lt with
  | true=>
   rw [hl] at hr;simp only [cond_true] at hr
   split at hr
   ·rename_i t uM
    obtain ⟨h',k1,hq,hf,hh⟩:=eM hr
    refine ⟨_,_,_,k1,Step.y3 (.of _ hh rfl (fun u hu=>by rcases zF.1 hu with rfl;exact aB (o:=h.aQ) hq (.head _)) (fun S2 hA=>mo ho t1 t2 (hk.tz t uM) ((hA _ (aB hq (.head _))).2.2 hf)) hd) (fun g v hv=>hv.Ag)⟩
   ·cases hr
  | false=>
   rw [hl] at hr;simp only [cond_false] at hr
   obtain ⟨h',k1,hq,hf,hh⟩:=eM hr
   exact ⟨_,_,_,k1,.of _ hh rfl (fun u hu=>by rcases zF.1 hu with rfl;exact aB (o:=h.aQ) hq (.head _)) (fun S2 hA=>mo ho t1 t2 (yW t6) ((hA _ (aB hq (.head _))).2.2 hf)) hd⟩
 ·cases hr
theorem tP {S:Hp} {T:TypeId} {x:Operand} {ps qs:List A} {q:Nat} (ho:o.op = .box T x) (hx:(ρ x).cells=some ps) (hq:∀g vs,Vs g ps vs→Vs g qs vs) (hf:S.fr q):dH P o ρ S (S.new q (.cells qs)) (.ptr q 0):=by
 intro g w a next Q hI hv K
 have e2:=hq _ _ ((hv x (by simp [ho,Op.operands])).cells hx)
 obtain ⟨h1,h2⟩:=hI.kC hf (cs:=qs) (vs:=(a.eval x).cells) T (by have:=e2.1;simp at this ⊢;omega) e2.all
 unfold Oper.wp
 simp only [execOp,ho,Instr.box,Sem.run_bind,Result.andThen_ok,Sem.run_pure,newVar,newRow,run_newObj]
 exact K _ _ _ (.ptr _ _ w.heap.size _ bU) h1 h2
def B9 (E:Env) (T:Nat) (px:A) (h:H) (K:A→H→Fp→Option β):Option β:=match bZ E.cS T,px.cells with
 | some e,some ps=>bif e.lt then (match e.t with
  | some t=>match nv t ps with
   | some x=>lR (.one t x) h (fun q h'=>K (.tp (.loc q) []) h' (.wr [cE q]))
   | none=>none
  | none=>none) else lR (.cells ps) h (fun q h'=>K (.ptr q 0) h' (.wr [cE q]))
 | _,_=>none
theorem B8 {T:Nat} {x:Operand} (ho:o.op = .box T x) (hr:B9 E T (ρ x) h K=some r):Out P o ρ h K r:=by
 have hd:∀c,o.op≠.defer c:=by rw [ho];intro c e;cases e
 unfold B9 at hr
 split at hr
 ·rename_i e ps ht qy
  cases hl:e.lt with
  | true=>
   rw [hl] at hr;simp only [cond_true] at hr
   split at hr
   ·rename_i t uM
    split at hr
    ·rename_i y hy
     obtain ⟨h',k1,hq,hf,hh⟩:=eM hr
     exact ⟨_,_,_,k1,Step.y3 (.of _ hh rfl (fun u hu=>by rcases zF.1 hu with rfl;exact aB (o:=h.aQ) hq (.head _)) (fun S2 hA=>tP ho qy (fun g vs hv=>(hJ t ps y hy).2 vs hv) ((hA _ (aB hq (.head _))).2.2 hf)) hd) (fun g v hv=>hv.Ag)⟩
    ·cases hr
   ·cases hr
  | false=>
   rw [hl] at hr;simp only [cond_false] at hr
   obtain ⟨h',k1,hq,hf,hh⟩:=eM hr
   exact ⟨_,_,_,k1,.of _ hh rfl (fun u hu=>by rcases zF.1 hu with rfl;exact aB (o:=h.aQ) hq (.head _)) (fun S2 hA=>tP ho qy (fun g vs hv=>hv) ((hA _ (aB hq (.head _))).2.2 hf)) hd⟩
 ·cases hr
end
end
section
open Go.RowKit
section
variable {P:Program} {E:Env} {o:Oper} {ρ:Operand→A} {h:H} {β:Type} {K:A→H→Fp→Option β} {r:β}
def Jn (E:Env) (T:Nat) (ρ:Operand→A) (ps:List (Nat×Operand)) (h:H) (K:A→H→Fp→Option β):Option β:=match bZ E.cS T with
 | some e=>match e.d with
  | .struct _=>match pM ρ (fun i=>e.pl.toArray[i]?) (iH e.zero) ps with
   | some cs=>K (.agg cs) h .no
   | none=>none
  | .array _ el=>match bZ E.cS el with
   | some e'=>match pM ρ (fun i=>some (i*e'.size,e'.size)) (iH e.zero) ps with
    | some cs=>K (.agg cs) h .no
    | none=>none
   | none=>none
  | _=>none
 | none=>none
theorem EH (hE:bL P E) {T:Nat} {ps:Array (Nat×Operand)} (ho:o.op = .build T ps) (hr:Jn E T ρ ps.toList h K=some r):Out P o ρ h K r:=by
 have hd:∀c,o.op≠.defer c:=by rw [ho];intro c e;cases e
 unfold Jn at hr
 split at hr
 ·rename_i e ht
  have hk:=hE.cS _ _ ht
  split at hr
  ·rename_i fs yP
   split at hr
   ·rename_i cs hf
    obtain ⟨i,t1,t2,t3,t4,t5,t6⟩:=hk.ti
    exact .pure hr (fun S2=>xM ho (by rw [hk.u,yP]) t1 t2 t6 (hk.pl fs yP) hf) hd
   ·cases hr
  ·rename_i n el yP
   split at hr
   ·rename_i e' Uj
    split at hr
    ·rename_i cs hf
     exact .pure hr (fun S2=>qq ho (by rw [hk.u,yP]) hk.ti (hE.cS _ _ Uj).ti.size hf) hd
    ·cases hr
   ·cases hr
  ·cases hr
 ·cases hr
def BH (f:List A→H→Option (List A×H×List Nat)) (z:Nat):Nat→List A→H→Option (List A×H×List Nat)
 | 0,cs,h=>some (cs,h,[])
 | n+1,cs,h=>match f (cs.take z) h with
  | some (xb,h1,T1)=>match BH f z n (cs.drop z) h1 with
   | some (Hd,h2,T2)=>some (xb++Hd,h2,T1++T2)
   | none=>none
  | none=>none
theorem wX {f:List A→H→Option (List A×H×List Nat)} (hf:∀cs h gz h' T,f cs h=some (gz,h',T)→Cv h h' T cs gz) {z:Nat}:∀(n:Nat) (cs:List A) (h:H) (gz:List A) (h':H) (T:List Nat),BH f z n cs h=some (gz,h',T)→Cv h h' T cs gz
 | 0,cs,h,gz,h',T,e=>by
  simp only [BH,zI,zU] at e
  obtain ⟨rfl,rfl,rfl⟩:=e
  exact Cv.refl h [] _
 | n+1,cs,h,gz,h',T,e=>by
  simp only [BH] at e
  split at e
  ·rename_i xb h1 T1 e1
   split at e
   ·rename_i Hd h2 T2 e2
    simp only [zI,zU] at e
    obtain ⟨rfl,rfl,rfl⟩:=e
    have:=(hf _ _ _ _ _ e1).append (wX hf n _ _ _ _ _ e2)
    rwa [zP] at this
   ·cases e
  ·cases e
theorem l8 {pv:A} {S:Hp} {T El:TypeId} {n z:Nat} {parts:Array (Nat×Operand)} {ie:TypeInfo} {zv:Value} {es cs:List A} {q:Nat} {g g0:G} {w:World} {a:Act} (ho:o.op = .buildSlice T n parts) (hT:P.underlying T=some (.slice El)) (hE:P.info? El=some ie) (hz:ie.zero=some zv)
  (hs:ie.size=z) (h0:0<z) (hn:n*z≤16777216) (oJ:BS ρ z parts.toList 0=some es) (hl:parts.toList.length=n) (hI:Inv g S w) (hv:∀x∈o.op.operands,V g0 (ρ x) (a.eval x)) (hf:S.fr q) (e5:Vs g cs ((parts.toList.map fun x=>a.eval x.2).flatMap (fun v=>v.cells.toList)))
  (pr:∀g' b,g'.bg q=some (some b,(n*z,n*z))→n≤maxLen→V g' pv (.slice (some ⟨b,0,none⟩) n n)):qC P o S (S.new q (.cells cs)) pv g w a:=by
 intro next Q K
 subst hs
 obtain ⟨e2,e1,e3,e4⟩:=oL (z:=ie.size) (a:=a) (g:=g0) parts.toList 0 es (fun x hx=>hv x.2 (by
  simp only [ho,Op.operands]
  rw [List.mem_toArray]
  exact List.mem_map.2 ⟨x,hx,rfl⟩)) oJ
 have Is:((Array.range (n*ie.size)).map (zv.cells[· % zv.cells.size]!)).size=n*ie.size:=by simp
 have OD:=Go.Great.fill_whole h0 (parts.toList.map fun x=>a.eval x.2) ((Array.range (n*ie.size)).map (zv.cells[· % zv.cells.size]!)) e3 (by simp only [zH];rw [Is,hl])
 have pB:(parts.map fun (i,x)=>(i,a.eval x)).toList=((parts.toList.map fun x=>a.eval x.2).zipIdx 0).map (fun x=>(x.2,x.1)):=by rw [←e2];simp
 generalize yN:(parts.toList.map fun x=>a.eval x.2).flatMap (fun v=>v.cells.toList)=vs at *
 have TE:vs.length=n*ie.size:=by rw [←e4.1,e1,hl]
 obtain ⟨h1,h2⟩:=hI.kC hf (cs:=cs) (vs:=vs.toArray) El (by have:=e5.1;simp;omega) (Vs.all (vs:=vs.toArray) e5)
 have Ru:n≤n*ie.size:=Nat.le_mul_of_pos_right _ h0
 have h8:cs.length=n*ie.size:=by rw [e5.1,TE]
 have h9:vs.toArray.size=n*ie.size:=by simp [TE]
 have pr:=pr (iu g q (some w.heap.size,(cs.length,vs.toArray.size))) w.heap.size (by rw [bU,h8,h9]) (by simp only [maxLen];omega)
 unfold Oper.wp
 by_cases JN:n=0
 ·subst JN
  have hpe:parts.toList=[]:=zZ hl
  have TC:vs=[]:=zZ (by rw [TE];simp)
  have hp3:parts = #[]:=by apply Array.ext';simp [hpe]
  have dA:(execOp a.eval o).run P w = .ok (.value (.slice (some ⟨w.heap.size,0,none⟩) 0 0)) (w.alloc (.cells #[] El)):=by
   simp [execOp,ho,hp3,Instr.buildSlice,run_underlying hT,sizeOf,typeInfo,hE,Instr.fill,newRow,Array.range_zero']
  rw [dA]
  subst TC
  exact K (.slice (some ⟨w.heap.size,0,none⟩) 0 0) _ _ pr h1 h2
 ·have TP:¬n*ie.size=0:=by
   intro h;rcases Nat.mul_eq_zero.1 h with h | h<;>omega
  have dA:(execOp a.eval o).run P w = .ok (.value (.slice (some ⟨w.heap.size,0,none⟩) n n)) (w.alloc (.cells vs.toArray El)):=by
   have:=run_buildSlice (P:=P) w T El n (parts.map fun (i,x)=>(i,a.eval x)) vs.toArray ie zv hT hE hz (by omega) TP (by rw [pB];exact OD)
   simp only [execOp,ho,Sem.run_bind,this,Result.andThen_ok,Sem.run_pure]
  rw [dA]
  exact K _ _ _ pr h1 h2
def Jk (E:Env) (T n:Nat) (ρ:Operand→A) (ps:List (Nat×Operand)) (h:H) (K:A→H→Fp→Option β):Option β:=match bZ E.cS T with
 | some ⟨.slice el,_,_,_,_,_,_⟩=>match bZ E.cS el with
  | some e=>bif Nat.blt 0 e.size && Nat.ble (n*e.size) 16777216 && Nat.beq ps.length n then (match BS ρ e.size ps 0,e.t with
   | some es,some t=>match BH (fixC 64 t) t.size n es h with
    | some (yS,h1,T1)=>match qI (nv t) t.size n yS with
     | some l=>lR (.row t l) h1 (fun q h2=>K (.tw (.loc q) e.size) h2 (.wr (cE q::T1)))
     | none=>none
    | none=>none
   | some es,none=>lR (.cells es) h (fun q h2=>K (.sl q 0 e.size n) h2 (.wr [cE q]))
   | _,_=>none) else none
  | none=>none
 | _=>none
theorem Step.new {T1:List Nat} {h1 h2:H} {us:List Up} {x:Ob} {pv:A} (c1:hp h1=app us (hp h)) (c2:∀u∈us,aF (.wr T1) u.id=true) (hq:h1.aQ<16777216) (hf:(hp h1).fr h1.aQ) (hh:hp h2=app [.new h1.aQ x] (hp h1)) (hd:∀c,o.op≠.defer c)
  (k:∀S2 g w a,Agree (.wr T1) (hp h) S2→(app us S2).fr h1.aQ→Inv g S2 w→(∀x∈o.op.operands,V g (ρ x) (a.eval x))→qC P o S2 ((app us S2).new h1.aQ x) pv g w a):Step P o ρ h h2 (.wr (cE h1.aQ::T1)) pv:=
 .of (us++[.new h1.aQ x]) (by rw [gJ,←c1,hh]) rfl (fun u hu=>by
  rcases zX.1 hu with hu | hu
  ·exact dJ (fun i hi=>.tail _ hi) (c2 u hu)
  ·rcases zF.1 hu with rfl;exact aB (o:=h1.aQ) hq (.head _)) (fun S2 hA g w a next Q hI hv K'=>by
  have mB:(app us S2).fr h1.aQ:=by
   have:=Agree.app us hA
   rw [←c1] at this
   exact (this h1.aQ (aB hq (.head _))).2.2 hf
  have e:=gJ us [.new h1.aQ x] S2
  rw [e] at K'
  exact k S2 g w a (hA.mono fun i hi=>.tail _ hi) mB hI hv next Q K') hd
theorem ED (hE:bL P E) {T n:Nat} {ps:Array (Nat×Operand)} (ho:o.op = .buildSlice T n ps) (hr:Jk E T n ρ ps.toList h K=some r):Out P o ρ h K r:=by
  have hd:∀c,o.op≠.defer c:=by rw [ho];intro c e;cases e
  unfold Jk at hr
  split at hr
  · rename_i el _ _ _ _ _ _ ht
    split at hr
    · rename_i e he
      obtain ⟨hc,hr⟩:=af hr
      simp only [zC] at hc
      have h0:=aU hc.1.1
      have hn:=Nat.le_of_ble_eq_true hc.1.2
      have hl:=beq_eq hc.2
      obtain ⟨i,t1,t2,t3,t4,t5,t6⟩:=(hE.cS _ _ he).ti
      split at hr
      · rename_i es t oJ uM
        split at hr
        · rename_i yS h1 T1 hf
          split at hr
          · rename_i l hy
            obtain ⟨us,c1,c2,c3⟩:=wX (fun cs h gz h' T e=>na _ _ _ _ _ _ _ e) _ _ _ _ _ _ hf
            obtain ⟨h2,k1,hq,mB,hh⟩:=eM hr
            refine ⟨_,_,_,k1,.new c1 c2 hq mB hh hd (fun S2 g w a hA hf hI hv=>?_)⟩
            obtain ⟨e2,e1,e3,e4⟩:=oL (z:=e.size) (a:=a) (g:=g) ps.toList 0 es (fun x hx=>hv x.2 (by
              simp only [ho,Op.operands]
              rw [List.mem_toArray]
              exact List.mem_map.2 ⟨x,hx,rfl⟩)) oJ
            obtain ⟨g1,q1,q2,q3⟩:=c3 g S2 w _ hI hA e4
            obtain ⟨z1,z2,z3⟩:=mH (g:=g1) (fun cs x h=>hJ t cs x h) _ _ _ hy
            refine qC.pre ?_ q2
            refine l8 (g0:=g) ho (hE.cS _ _ ht).u t1 t2 t3 h0 hn oJ hl q1 hv hf ?_ (fun g' b hb hx=>.tw (.loc h1.aQ) e.size n b n _ hb (Nat.le_refl _) hx (Nat.le_refl _) 0 (fun _=>rfl))
            exact z3 _ q3
          · cases hr
        · cases hr
      · rename_i es oJ uM
        obtain ⟨h2,k1,hq,mB,hh⟩:=eM hr
        refine ⟨_,_,_,k1,.of _ hh rfl (fun u hu=>by rcases zF.1 hu with rfl;exact aB (o:=h.aQ) hq (.head _)) (fun S2 hA g w a next Q hI hv K'=>?_) hd⟩
        obtain ⟨e2,e1,e3,e4⟩:=oL (z:=e.size) (a:=a) (g:=g) ps.toList 0 es (fun x hx=>hv x.2 (by
              simp only [ho,Op.operands]
              rw [List.mem_toArray]
              exact List.mem_map.2 ⟨x,hx,rfl⟩)) oJ
        exact l8 (g0:=g) ho (hE.cS _ _ ht).u t1 t2 t3 h0 hn oJ hl hI hv ((hA _ (aB hq (.head _))).2.2 mB) e4 (fun g' b hb hx=>.sl h.aQ 0 e.size n b n _ hb (Nat.le_refl _) hx (by omega)) next Q K'
      · cases hr
    · cases hr
  · cases hr
end
end
section
open Go.RowKit
section
variable {P:Program} {E:Env} {o:Oper} {ρ:Operand→A} {h:H} {β:Type} {K:A→H→Fp→Option β} {r:β}
theorem V.oR {g:G} {S:Hp} {w:World} (hI:Inv g S w) {X:Ref} {t:Ty} {l:List t.T} (h0:0<t.size) (ho:S.ob X.id=some (.cells (l.flatMap (aA t)))) {v:Value} (hv:V g (.tw X t.size) v) :
  (∃ad,g.bg X.id=some (none,(0,0))∧v = .slice ad 0 0∧l=[])∨∃b s cap d,g.bg X.id=some (some b,s)∧v = .slice (some ⟨b,d,none⟩) l.length cap∧(cap≠0→d=0)∧l.length≤cap∧cap≤maxLen∧cap*t.size≤s.2:=by
 have hlen:=bb t l
 cases hv with
 | qE _ _ ad bG=>
  rcases hI.cells _ _ ho with ⟨_,k2⟩ | ⟨b,tt,k1,_⟩
  ·refine .inl ⟨ad,bG,rfl,zZ ?_⟩
   rw [k2] at hlen
   rcases Nat.eq_zero_or_pos l.length with h | h
   ·exact h
   ·have:0<l.length*t.size:=Nat.mul_pos h h0
    simp at hlen;omega
  ·rw [k1] at bG;cases bG
 | tw _ _ m b cap tt bG hn og hp d l7=>
  rcases hI.cells _ _ ho with ⟨k1,_⟩ | ⟨b',CU,k1,_⟩
  ·rw [k1] at bG;cases bG
  have IG:=bG
  rw [k1] at bG
  simp only [zI,zU] at bG
  obtain ⟨rfl,hl,rfl⟩:=bG
  rw [hlen] at hl
  have hm:l.length=m:=Nat.eq_of_mul_eq_mul_right h0 hl
  subst hm
  exact .inr ⟨b',_,cap,d,IG,rfl,l7,hn,og,hp⟩
def N9 (h:H) (px:A) (k:Nat→List Nat→Option β):Option β:=match px with
 | .e0=>k 0 []
 | .v (.slice _ n _)=>k n []
 | .tl _ _ l=>k (len l) []
 | .tw X z=>hP h X (fun t l=>bif Nat.beq z t.size && Nat.blt 0 t.size then k (len l) [gT X] else none)
 | .ts _ _ _ n=>k n []
 | .tf _ _ _ n=>k n []
 | .aa _ _ n _=>k n []
 | .sl _ _ _ n=>k n []
 | _=>none
theorem V.L0 {g:G} {t:Ty} {f:Bool} {l:List t.T} {v:Value} (hv:V g (.tl t f l) v):∃ad c,v = .slice ad l.length c:=by
 cases hv with
 | tl _ _ _ _ hd=>
  generalize oJ:List.map (cq t) l=es at hd
  have nT:es.length=l.length:=by rw [←oJ,zH]
  cases hd with
  | rn=>rw [←nT];exact ⟨_,_,rfl⟩
  | sl _ _ _ a cap vs=>rw [←nT];exact ⟨_,_,rfl⟩
theorem DS {px:A} {k:Nat→List Nat→Option β} (hr:N9 h px k=some r):∃n T,k n T=some r∧∀S2,Agree (.rd T) (hp h) S2→∀g w v,Inv g S2 w→V g px v→∃ad c,v = .slice ad n c:=by
 cases px with
 | e0=>exact ⟨0,[],hr,fun S2 _ g w v _ hv=>by cases hv with | e0 ad=>exact ⟨ad,0,rfl⟩⟩
 | v x=>cases x with
  | slice ad n c=>exact ⟨n,[],hr,fun S2 _ g w v _ hv=>by cases hv;exact ⟨_,_,rfl⟩⟩
  | _=>cases hr
 | tl t f l=>exact ⟨len l,[],hr,fun S2 _ g w v _ hv=>hv.L0⟩
 | tw X z=>
  obtain ⟨t,l,hr,hX,dI⟩:=dz (show hP h X _=some r from hr)
  obtain ⟨h1,hk⟩:=af hr
  simp only [zC] at h1
  obtain rfl:=beq_eq h1.1
  exact ⟨_,_,hk,fun S2 hA g w v hI hv=>by
   rcases hv.oR hI (aU h1.2) ((hA _ (bB hX (.head _))).1.trans dI) with ⟨ad,_,rfl,rfl⟩ | ⟨b,s,cap,d,_,rfl,_⟩
   ·exact ⟨ad,0,rfl⟩
   ·exact ⟨_,cap,rfl⟩⟩
 | ts X z off n=>exact ⟨n,[],hr,fun S2 _ g w v _ hv=>by
   cases hv with
   | qG _ _ _ _ ad _ hn=>exact ⟨ad,0,by rw [show n=0 by omega]⟩
   | ts=>exact ⟨_,_,rfl⟩⟩
 | tf X z off n=>exact ⟨n,[],hr,fun S2 _ g w v _ hv=>by
   cases hv with
   | zc _ _ _ _ ad _ hn=>exact ⟨ad,0,by rw [show n=0 by omega]⟩
   | tf=>exact ⟨_,_,rfl⟩⟩
 | aa X π n z=>exact ⟨n,[],hr,fun S2 _ g w v _ hv=>by cases hv;exact ⟨_,_,rfl⟩⟩
 | sl q off z n=>exact ⟨n,[],hr,fun S2 _ g w v _ hv=>by cases hv;exact ⟨_,_,rfl⟩⟩
 | _=>cases hr
def vn (E:Env) (T:Nat):Option Nat:=match bZ E.cS T with
 | some ⟨.slice el,_,_,_,_,_,_⟩=>some el
 | _=>none
theorem mX (hE:bL P E) {T el:Nat} (h:vn E T=some el):P.underlying T=some (.slice el):=by
 unfold vn at h
 split at h
 ·rename_i ht;cases h;exact (hE.cS _ _ ht).u
 ·cases h
def Ig (E:Env) (T:Nat) (px:A) (h:H) (K:A→H→Fp→Option β):Option β:=match vn E T with
 | some _=>N9 h px (fun n T=>K (.v (.int .i64 (zN n))) h (.rd T))
 | none=>none
theorem DR (hE:bL P E) {T:Nat} {x:Operand} (ho:o.op = .call { callee:=.builtin .len,args:=#[x],argTypes:=#[T] }) (hr:Ig E T (ρ x) h K=some r):Out P o ρ h K r:=by
 unfold Ig at hr
 split at hr
 ·rename_i el he
  obtain ⟨n,T',h1,h2⟩:=DS hr
  exact .read _ h1 (fun S2 hA=>Dx ho ⟨el,mX hE he⟩ (h2 S2 hA)) (by rw [ho];intro c e;cases e)
 ·cases hr
def vG {α:Type} (d:α) (n:Nat) (l:List α):List α:=(List.range n).map (nth d l)
theorem yk {α β:Type} (f:α→List β) (d:α) (n:Nat) (l:List α):(vG d n l).flatMap f=Cc f d n l:=by
 unfold vG Cc
 rw [List.flatMap_map]
theorem BJ {α:Type} (d:α) (n:Nat) (l:List α):(vG d n l).length=n:=by simp [vG]
def uU (h:H) (t:Ty) (py:A) (k:List t.T→List Nat→Option β):Option β:=match py with
 | .e0=>k [] []
 | .v (.slice _ 0 _)=>k [] []
 | .tl t' _ l=>match eG (.aH t') (.aH t) l with
  | some l'=>bif t.data then k l' [] else none
  | none=>none
 | .nn t' l=>match eG (.aH t') (.aH t) l with
  | some l'=>bif t.data then k l' [] else none
  | none=>none
 | .os r z o=>opt o (k [] []) (fun j=>hP h (.dq r j) (fun t' l=>match eG (.aH t') (.aH t) l with
  | some l'=>bif Nat.beq z t.size && Nat.blt 0 t.size then k l' [gT (.dq r j)] else none
  | none=>none))
 | .tw X z=>hP h X (fun t' l=>match eG (.aH t') (.aH t) l with
  | some l'=>bif Nat.beq z t.size && Nat.blt 0 t.size then k l' [gT X] else none
  | none=>none)
 | .ts X z off n=>hP h X (fun t' l=>match eG (.aH t') (.aH t) l with
  | some l'=>bif Nat.beq z t.size && Nat.blt 0 t.size then k (tk n (dr off l')) [gT X] else none
  | none=>none)
 | .tf X z off n=>hP h X (fun t' l=>match eG (.aH t') (.aH t) l with
  | some l'=>bif Nat.beq z t.size && Nat.blt 0 t.size then k (tk n (dr off l')) [gT X] else none
  | none=>none)
 | .aa X π n z=>pf h X π (fun sg=>match eG sg.t (.arr n t) sg.x with
  | some l=>bif Nat.beq z t.size then k (vG t.cg n l) [gT X] else none
  | none=>none)
 | .sl q off z n=>match h.t.get q with
  | some (.cells cs)=>bif Nat.blt q 16777216 && Nat.beq z t.size && Nat.ble (off+n*z) cs.length then (match qI (nv t) t.size n ((cs.drop off).take (n*z)) with
   | some l=>k l [cE q]
   | none=>none) else none
  | _=>none
 | _=>none
theorem Given.conv {g:G} {w:World} {v:Value} {sz m:Nat} {ps qs:List A} (k:Given g w v sz m ps) (hc:∀vs,Vs g ps vs→Vs g qs vs):Given g w v sz m qs:=by
 obtain ⟨A2,kU,us,h1,h2,h3,h4⟩:=k
 exact ⟨A2,kU,us,h1,hc _ h2,h3,h4⟩
theorem V.vZ {g:G} {S:Hp} {w:World} (hI:Inv g S w) {t:Ty} (hd:t.data=true) {f:Bool} {l:List t.T} {v:Value} (hv:V g (.tl t f l) v):Given g w v t.size l.length (l.flatMap (aA t)):=by
 cases hv with
 | tl _ _ _ _ hv=>
  generalize oJ:List.map (cq t) l=es at hv
  have nT:es.length=l.length:=by rw [←oJ,zH]
  have CI:es.flatten=l.flatMap (cq t):=by rw [←oJ,j0]
  cases hv with
  | rn=>
   have:l=[]:=zZ nT.symm
   subst this
   exact .zero ⟨_,_,rfl⟩
  | sl _ _ _ a cap vs hz hc hf hn hx hl hm CE=>
   rw [CI] at CE hl
   have yN:jL g.mem (l.flatMap (cq t)) vs:=⟨hl,CE⟩
   have h1:=BG (g:=g) (f:=aA t) (f':=cq t) (fun x us hu=>jL.cells t x us hd hu) (fun x=>by rw [bH,de]) l vs yN
   rw [nT]
   refine ⟨_,cap,vs,rfl,h1,by rw [←h1.1,bb],fun h0=>?_⟩
   cases a with
   | none=>have:=hn rfl;omega
   | some p=>
    refine ⟨_,rfl,fun j x hj=>?_⟩
    obtain ⟨cur,ty,fz,q1,q2⟩:=hI.mem _ _ _ (hm p j x rfl hj)
    rw [show (RM p).add j=⟨p.1,p.2+j,none⟩ from Addr.add_lit _ _ _,cell_of_row w p.1 _ cur ty _ q1];exact q2
theorem piece {g:G} {S:Hp} {w:World} (hI:Inv g S w) {X:Ref} {t:Ty} {l:List t.T} {off n b cap d:Nat} {s:Nat×Nat} (_h0:0<t.size) (dI:S.ob X.id=some (.cells (l.flatMap (aA t)))) (bG:g.bg X.id=some (some b,s)) (hle:off+n≤l.length) (hd:n≠0→d=off*t.size) :
  Given g w (.slice (some ⟨b,d,none⟩) n cap) t.size (tk n (dr off l)).length ((tk n (dr off l)).flatMap (aA t)):=by
 have hl:(tk n (dr off l)).length=n:=by simp [tk,dr];omega
 rw [hl]
 rcases Nat.eq_zero_or_pos n with h0 | h0
 ·subst h0
  rw [show tk 0 (dr off l)=[] from by simp [tk]]
  exact .zero ⟨_,cap,rfl⟩
 ·obtain rfl:=hd (by omega)
  have:=hI.given (off:=off*t.size) (sz:=t.size) (m:=n) (cap:=cap) dI bG (by rw [bb,←Nat.add_mul];exact zW _ hle)
  rw [gU] at this
  exact this
theorem rj {t:Ty} {py:A} {k:List t.T→List Nat→Option β} (hr:uU h t py k=some r):∃l T,k l T=some r∧∀S2,Agree (.rd T) (hp h) S2→∀g w v,Inv g S2 w→V g py v→Given g w v t.size l.length (l.flatMap (aA t)):=by
 cases py with
 | e0=>exact ⟨[],[],hr,fun S2 _ g w v _ hv=>by cases hv with | e0 ad=>exact .zero ⟨ad,0,rfl⟩⟩
 | v x=>cases x with
  | slice ad n c=>cases n with
   | zero=>exact ⟨[],[],hr,fun S2 _ g w v _ hv=>by cases hv;exact .zero ⟨_,_,rfl⟩⟩
   | succ n=>cases hr
  | _=>cases hr
 | tl t' f l=>
  unfold uU at hr
  simp only at hr
  split at hr
  ·rename_i l' hl
   obtain ⟨e,rfl⟩:=bY hl
   cases e
   obtain ⟨h1,hr⟩:=af hr
   exact ⟨_,[],hr,fun S2 _ g w v hI hv=>hv.vZ hI h1⟩
  ·cases hr
 | nn t' l=>
  unfold uU at hr
  simp only at hr
  split at hr
  ·rename_i l' hl
   obtain ⟨e,rfl⟩:=bY hl
   cases e
   obtain ⟨h1,hr⟩:=af hr
   exact ⟨_,[],hr,fun S2 _ g w v hI hv=>by cases hv with | nn _ _ a n c h=>exact (V.tl _ false _ _ h).vZ hI h1⟩
  ·cases hr
 | os q z o=>
  rcases gF (show opt o (k [] []) _=some r from hr) with ⟨e0,hr⟩ | ⟨jj,e0,hr⟩
  ·exact ⟨[],[],hr,fun S2 _ g w v _ hv=>by
    cases hv with
    | os _ _ _ _ h0 _=>cases h0 e0 with | e0 ad=>exact .zero ⟨ad,0,rfl⟩⟩
  ·obtain ⟨t',l,hr,hX,dI⟩:=dz (show hP h (.dq q jj) _=some r from hr)
   split at hr
   ·rename_i l' hl
    obtain ⟨e,rfl⟩:=bY hl
    cases e
    obtain ⟨h1,hk⟩:=af hr
    simp only [zC] at h1
    have ez:=beq_eq h1.1
    subst ez
    refine ⟨_,_,hk,fun S2 hA g w v hI Ir=>?_⟩
    have hv:V g (.tw (.dq q jj) t.size) v:=by cases Ir with | os _ _ _ _ _ h1=>exact h1 jj e0
    have dc:=(hA _ (bB hX (.head _))).1.trans dI
    rcases hv.oR hI (aU h1.2) dc with ⟨ad,_,rfl,rfl⟩ | ⟨b,s,cap,d,bG,rfl,hd,hn,_⟩
    ·exact .zero ⟨ad,0,rfl⟩
    ·rcases Nat.eq_zero_or_pos l.length with h0 | h0
     ·have:l=[]:=zZ h0
      subst this
      exact .zero ⟨_,cap,rfl⟩
     ·obtain rfl:=hd (by omega)
      have:=hI.given (off:=0) (sz:=t.size) (m:=l.length) (cap:=cap) dc bG (by rw [bb];omega)
      rw [List.drop_zero,za (by rw [bb];exact Nat.le_refl _)] at this
      exact this
   ·cases hr
 | tw X z=>
  obtain ⟨t',l,hr,hX,dI⟩:=dz (show hP h X _=some r from hr)
  split at hr
  ·rename_i l' hl
   obtain ⟨e,rfl⟩:=bY hl
   cases e
   obtain ⟨h1,hk⟩:=af hr
   simp only [zC] at h1
   obtain rfl:=beq_eq h1.1
   refine ⟨_,_,hk,fun S2 hA g w v hI hv=>?_⟩
   have dc:=(hA _ (bB hX (.head _))).1.trans dI
   rcases hv.oR hI (aU h1.2) dc with ⟨ad,_,rfl,rfl⟩ | ⟨b,s,cap,d,bG,rfl,hd,hn,_⟩
   ·exact .zero ⟨ad,0,rfl⟩
   ·rcases Nat.eq_zero_or_pos l.length with h0 | h0
    ·have:l=[]:=zZ h0
     subst this
     exact .zero ⟨_,cap,rfl⟩
    ·obtain rfl:=hd (by omega)
     have:=hI.given (off:=0) (sz:=t.size) (m:=l.length) (cap:=cap) dc bG (by rw [bb];omega)
     rw [List.drop_zero,za (by rw [bb];exact Nat.le_refl _)] at this
     exact this
  ·cases hr
 | ts X z off n=>
  obtain ⟨t',l,hr,hX,dI⟩:=dz (show hP h X _=some r from hr)
  split at hr
  ·rename_i l' hl
   obtain ⟨e,rfl⟩:=bY hl
   cases e
   obtain ⟨h1,hk⟩:=af hr
   simp only [zC] at h1
   obtain rfl:=beq_eq h1.1
   refine ⟨_,_,hk,fun S2 hA g w v hI hv=>?_⟩
   have dc:=(hA _ (bB hX (.head _))).1.trans dI
   have hle:=qF hI (aU h1.2) dc hv
   cases hv with
   | qG _ _ _ _ ad _ hn=>
    rw [show n=0 by omega,show tk 0 (dr off l)=[] by simp [tk]]
    exact .zero ⟨ad,0,rfl⟩
   | ts _ _ _ _ b cap s bG hn hx hs Iu d hd=>exact piece hI (aU h1.2) dc bG hle (fun JN=>hd (by omega))
  ·cases hr
 | tf X z off n=>
  obtain ⟨t',l,hr,hX,dI⟩:=dz (show hP h X _=some r from hr)
  split at hr
  ·rename_i l' hl
   obtain ⟨e,rfl⟩:=bY hl
   cases e
   obtain ⟨h1,hk⟩:=af hr
   simp only [zC] at h1
   obtain rfl:=beq_eq h1.1
   refine ⟨_,_,hk,fun S2 hA g w v hI hv=>?_⟩
   have dc:=(hA _ (bB hX (.head _))).1.trans dI
   cases hv with
   | zc _ _ _ _ ad _ hn=>
    rw [show n=0 by omega,show tk 0 (dr off l)=[] by simp [tk]]
    exact .zero ⟨ad,0,rfl⟩
   | tf _ _ _ _ b s bG hx hs d hd=>
    have hle:off+n≤l.length:=by
     rcases hI.cells _ _ dc with ⟨k1,_⟩ | ⟨b',CU,k1,_⟩
     ·rw [k1] at bG;cases bG
     rw [k1] at bG
     simp only [zI,zU] at bG
     obtain ⟨_,rfl⟩:=bG
     simp only [bb] at hs
     exact Nat.le_of_mul_le_mul_right hs (aU h1.2)
    exact piece hI (aU h1.2) dc bG hle hd
  ·cases hr
 | aa X π n z=>
  obtain ⟨sg,hk,hX,h2⟩:=qP (show pf h X π _=some r from hr)
  split at hk
  ·rename_i l hl
   obtain ⟨st,sx⟩:=sg
   obtain ⟨e,hl⟩:=bY hl
   simp only at e hl h2
   subst e
   simp only at hl
   subst hl
   obtain ⟨h1,hk⟩:=af hk
   refine ⟨_,_,hk,fun S2 hA g w v hI hv=>?_⟩
   obtain rfl:=beq_eq h1
   cases hv with
   | aa _ _ _ _ b cap s bG hp hn hx=>
    have ha:=hA _ (bB hX (.head _))
    obtain ⟨a,c,q1,q2⟩:=h2 g _ w _ hI ha.1 ha.2 (.tp X π b s bG hp)
    have e1:(vG (α:=t.T) t.cg n sx).flatMap (aA t)=aA (.arr n t) sx:=yk _ _ _ _
    have e3:(vG (α:=t.T) t.cg n sx).length=n:=BJ _ _ _
    have e2:(aA (.arr n t) sx).length=n*t.size:=bH (.arr n t) sx
    have:=hI.given (off:=cJ π) (sz:=t.size) (m:=n) (cap:=cap) q1 bG (by simp only [zY];rw [e2];omega)
    rw [←q2,List.drop_left,←e2,List.take_left,q2] at this
    exact Eq.subst (motive:=fun k=>Given g w _ t.size k _) e3.symm (Eq.subst (motive:=fun cs=>Given g w _ t.size n cs) e1.symm this)
  ·cases hk
 | sl q off z n=>
  unfold uU at hr
  simp only at hr
  split at hr
  ·rename_i cs hg
   obtain ⟨h1,hr⟩:=af hr
   simp only [zC] at h1
   have hq:=aU h1.1.1
   obtain rfl:=beq_eq h1.1.2
   split at hr
   ·rename_i l hy
    refine ⟨_,_,hr,fun S2 hA g w v hI hv=>?_⟩
    obtain ⟨z1,z2,z3⟩:=mH (g:=g) (fun cs x h=>hJ t cs x h) _ _ _ hy
    have dI:(hp h).ob q=some (.cells cs):=by rw [iV hq];unfold et;rw [hg];rfl
    cases hv with
    | sl _ _ _ _ b cap s bG hn hx hs=>
     rw [z2]
     exact (hI.given ((hA q (aB hq (.head _))).1.trans dI) bG (Nat.le_of_ble_eq_true h1.2)).conv z3
   ·cases hr
  ·cases hr
 | _=>cases hr
end
end
section
open Go.RowKit
section
variable {P:Program} {E:Env} {o:Oper} {ρ:Operand→A} {h:H} {β:Type} {K:A→H→Fp→Option β} {r:β}
theorem tB (t:Ty) (n:Nat) (x:t.T):(rep n x).flatMap (aA t)=nK n (aA t x):=by
 unfold rep nK
 induction n with
 | zero=>rfl
 | succ n ih=>rw [List.replicate_succ,List.replicate_succ,List.flatMap_cons,List.flatten_cons,ih]
def Te (E:Env) (T:Nat) (same:Bool) (px:A) (h:H) (K:A→H→Fp→Option β):Option β:=match vn E T with
 | some el=>match bZ E.cS el,px with
  | some e,.v (.int _ m)=>match e.t with
   | some t=>bif same && Nat.blt 0 e.size && Nat.ble (16777216*e.bytes) 281474976710656 then gd (bq m) (gd (bw (nN m) 16777216) (lR (.row t (rep (nN m) t.cg)) h (fun q h'=>K (.tw (.loc q) e.size) h' (.wr [cE q])))) else none
   | none=>none
  | _,_=>none
 | none=>none
theorem Ia (hE:bL P E) {T:Nat} {x y:Operand} {same:Bool} (ho:o.op = .makeSlice T x y) (hs:same=true→x=y) (hr:Te E T same (ρ x) h K=some r):Out P o ρ h K r:=by
 have hd:∀c,o.op≠.defer c:=by rw [ho];intro c e;cases e
 unfold Te at hr
 split at hr
 ·rename_i el he
  split at hr
  ·rename_i e k m ht hx
   split at hr
   ·rename_i t uM
    obtain ⟨h1,hr⟩:=af hr
    simp only [zC] at h1
    obtain rfl:=hs h1.1.1
    obtain ⟨h2,hr⟩:=bp hr
    obtain ⟨h3,hr⟩:=bp hr
    have h3:nN m≤16777216:=h3
    obtain ⟨h',k1,hq,hf,hh⟩:=eM hr
    have hk:=hE.cS _ _ ht
    have hb:=Nat.le_of_ble_eq_true h1.2
    refine ⟨_,_,_,k1,.of _ hh rfl (fun u hu=>by rcases zF.1 hu with rfl;exact aB (o:=h.aQ) hq (.head _)) (fun S2 hA=>?_) hd⟩
    have e1:fu.low (.row t (rep (nN m) t.cg)) = .cells (nK (nN m) (aA t t.cg)):=congrArg Ob.cells (tB t _ _)
    rw [e1]
    have og:ρ x = .v (.int k ((nN m:Nat):Int)):=by rw [hx,l3 h2]
    exact qn ho (mX hE he) hk.ti (aU h1.1.2) og og (Nat.le_trans (zW _ h3) hb) (by omega) ((hA _ (aB hq (.head _))).2.2 hf) (hk.tz t uM)
   ·cases hr
  ·cases hr
 ·cases hr
def I4 (h:H) (X:Ref) (k:H→Option β):Option β:=bif tV h (gT X) then none else match X with
 | .loc o=>dK h.t o none (fun t1=>k { h with t:=t1 })
 | .dq r j=>match bl h.rg r with
  | some ⟨_,.row t',c⟩=>bif Nat.blt r 64 then gd (bx j (len (α:=Option (List t'.T)) c)) (k { h with rg:=hO h.rg r (.row t') (aZ (α:=Option (List t'.T)) c j none) }) else none
  | _=>none
theorem o3 {t:Ty} {c:List (Option (List t.T))} {j:Nat} (hj:j<c.length) (i:Nat):cU (.row t) (aZ c j none) i=if i=j then none else cU (.row t) c i:=by
 show (match jY (aZ c j none) i with | some (some l)=>some (Ob.cells (l.flatMap (aA t))) | _=>none)=if i=j then none else (match jY c i with | some (some l)=>some (Ob.cells (l.flatMap (aA t))) | _=>none)
 rw [m7]
 by_cases h:i=j
 ·subst h;rw [if_pos ⟨rfl,hj⟩,if_pos rfl]
 ·rw [if_neg (fun k=>h k.1),if_neg h]
theorem w8 {X:Ref} {k:H→Option β} (hr:I4 h X k=some r):∃h',k h'=some r∧xP X=true∧hp h'=app [.del X.id] (hp h)∧h'.aQ=h.aQ:=by
 obtain ⟨_,hr⟩:=hC hr
 cases X with
 | loc o=>
  obtain ⟨hq,t1,k1,k2⟩:=bh hr
  exact ⟨_,k1,by show Nat.blt o 16777216=true;simpa using (xW hq),pD (xW hq) k2,rfl⟩
 | dq r j=>
  simp only at hr
  split at hr
  ·rename_i _ t' c hf
   obtain ⟨h3,hr⟩:=af hr
   obtain ⟨h4,hr⟩:=bp hr
   have fp:j<List.length (α:=Option (List t'.T)) c:=h4
   refine ⟨_,hr,h3,?_,rfl⟩
   exact pC (j:=j) (u:=.del (dV r j)) (aU h3) hf (oE (α:=Option (List t'.T)) c j _) (fun i hi=>by rw [o3 (c:=c) fp,if_neg hi]) rfl (by rw [o3 (c:=c) fp,if_pos rfl];exact if_pos rfl) rfl
  ·cases hr
def rZ:A→Bool
 | .e0=>true
 | .v (.slice _ 0 0)=>true
 | _=>false
theorem V.xT {g:G} {p:A} {v:Value} (hv:V g p v) (h:rZ p=true):∃ad,v = .slice ad 0 0:=by
 unfold rZ at h
 split at h
 ·cases hv with | e0 ad=>exact ⟨ad,rfl⟩
 ·cases hv;exact ⟨_,rfl⟩
 ·cases h
theorem qt {S:Hp} {T E':TypeId} {z b m n:Nat} {X:Ref} {zv:Value} {cs ps:List A} {x y:Operand} (ho:o.op = .call { callee:=.builtin .append,args:=#[x,y],argTypes:=#[T,T] }) (hT:P.underlying T=some (.slice E')) (hE:TI P E' z b zv) (h0:0<z)
  (hp:S.ob X.id=some (.cells cs)) (hx:ρ x = .ts X z 0 n) (oB:(n+m)*z≤cs.length) (hy:∀g w v,Inv g S w→V g (ρ y) v→Given g w v z m ps):dH P o ρ S (S.set X.id (.cells (put cs (n*z) ps))) (.ts X z 0 (n+m)):=
 .app ho fun g w a hI e1 e2=>by
  obtain ⟨i,t1,t2,t3,t4,t5,t6⟩:=hE
  subst t3 t4
  have Ec:dv P E' i.size:=⟨i,t1,rfl⟩
  obtain ⟨A2,kU,us,tY,nR,mY,yd⟩:=hy g w _ hI e2
  rw [hx] at e1
  generalize hu:a.eval x=vx at e1 ⊢
  cases e1 with
  | qG _ _ _ _ ad hg hn=>
   rcases hI.cells X.id cs hp with ⟨_,k2⟩ | ⟨b',t,k1,_⟩
   ·subst k2
    have hn:n=0:=by omega
    subst hn
    have hm:m=0:=by
     rcases Nat.eq_zero_or_pos m with h | h
     ·exact h
     ·have:0<(0+m)*i.size:=Nat.mul_pos (by omega) h0
      simp only [List.length_nil] at oB;omega
    subst hm
    have qy:ps=[]:=zZ (by rw [nR.1,mY];simp)
    subst qy
    have hS:S.set X.id (.cells (put [] (0*i.size) []))=S:=by
     refine Hp.ext' (fun j=>?_) (fun j=>Iff.rfl)
     show (if j=X.id then some (.cells (put [] (0*i.size) [])) else S.ob j)=S.ob j
     by_cases hj:j=X.id
     ·subst hj;rw [if_pos rfl,hp];simp [put]
     ·rw [if_neg hj]
    rw [hS,tY]
    exact ⟨_,g,w,fP w T E' o.type hT Ec _ A2 0 0 kU (Nat.le_refl _),.qG X i.size 0 (0+0) ad hg (by simp),hI,.refl S g w⟩
   ·rw [k1] at hg;cases hg
  | ts _ _ _ _ bk cap s hg Rt JS hs Iu d hd hq=>
   rw [tY]
   rw [Nat.zero_add] at Iu hq
   have qy:ps.length=m*i.size:=by rw [nR.1,mY]
   have hlen:(put cs (n*i.size) ps).length=cs.length:=rC (by rw [qy,←Nat.add_mul];exact oB)
   rcases hI.cells X.id cs hp with ⟨k1,_⟩ | ⟨b',t,k1,cur,ty,k2,nw,k3⟩
   ·rw [k1] at hg;cases hg
   have Rz:=hg
   rw [k1] at hg;simp at hg
   obtain ⟨rfl,rfl⟩:=hg
   simp only at hq Iu hs
   have oh:n+m≤cap:=Nat.le_of_mul_le_mul_right (Nat.le_trans oB hq) h0
   have l5:(0+(n+m))*i.size≤(cs.length,t).1:=by rw [Nat.zero_add];exact oB
   have pr:∀g',g'.bg X.id=some (some b',(cs.length,t))→V g' (.ts X i.size 0 (n+m)) (.slice (some ⟨b',d,none⟩) (n+m) cap):=fun g' bG=>.ts X i.size 0 (n+m) b' cap _ bG oh JS l5 (by rw [Nat.zero_add];exact Iu) d hd (by rw [Nat.zero_add];exact hq)
   rcases Nat.eq_zero_or_pos m with rfl | hm
   ·have qy:ps=[]:=zZ (by rw [qy];simp)
    subst qy
    have yb:put cs (n*i.size) []=cs:=by simp [put]
    have hS:S.set X.id (.cells (put cs (n*i.size) []))=S:=by
     rw [yb]
     refine Hp.ext' (fun j=>?_) (fun j=>Iff.rfl)
     show (if j=X.id then some (.cells cs) else S.ob j)=S.ob j
     by_cases hj:j=X.id
     ·subst hj;rw [if_pos rfl,hp]
     ·rw [if_neg hj]
    rw [hS]
    exact ⟨_,g,w,fP w T E' o.type hT Ec _ A2 n cap kU Rt,pr g Rz,hI,.refl S g w⟩
   ·obtain ⟨CM,rfl,ld⟩:=yd hm
    obtain rfl:=hd (by omega)
    have JM:(n+m)*i.size≤cs.length:=oB
    rw [Nat.add_mul] at JM
    obtain ⟨abQ,ty',c1,c2,c3,c4⟩:=hI.store (off:=n*i.size) hp Rz nR (by rw [qy];exact JM)
    rw [k2] at c1
    simp only [zI,Obj.cells.injEq,and_true] at c1
    obtain ⟨rfl,rfl⟩:=c1
    have dA:=jP (P:=P) w T o.type E' ty i hT t1 b' n cap cur k2 CM m kU us mY ld nR.one oh c2
    rw [Nat.zero_mul]
    exact ⟨_,g,_,dA,by have:=pr g Rz;rwa [Nat.zero_mul] at this,c3,c4⟩
def Jp (E:Env) (T:Nat) (px py:A) (h:H) (K:A→H→Fp→Option β):Option β:=match vn E T with
 | some el=>match bZ E.cS el with
  | some e=>match e.t with
   | some t=>bif Nat.blt 0 e.size && Nat.ble (16777216*e.bytes) 140737488355328 then uU h t py (fun l T1=>
    bif rZ px then gd (bw (len l) 16777216) (lR (.row t l) h (fun q h'=>K (.tw (.loc q) e.size) h' (.pt (cE q) T1)))
    else match px with
    | .tw X z=>hP h X (fun t' l0=>match eG (.aH t') (.aH t) l0 with
     | some l0=>bif Nat.beq z e.size then gd (bw (aL (len (α:=t.T) l0) (len l)) 16777216) (I4 h X (fun h1=>lR (.row t (cat (α:=t.T) l0 l)) h1 (fun q h2=>K (.tw (.loc q) e.size) h2 (.p2 (cE q) (gT X) T1)))) else none
     | none=>none)
    | .ts X z 0 n=>hP h X (fun t' l0=>match eG (.aH t') (.aH t) l0 with
     | some l0=>bif Nat.beq z e.size then (match py with
      | .ts _ _ _ _=>gd (bw (aL n (len l)) (len (α:=t.T) l0)) (pb h X t (cat (tk (α:=t.T) n l0) (cat l (dr (α:=t.T) (aL n (len l)) l0))) (fun h1=>K (.ts X z 0 (aL n (len l))) h1 (.wr (gT X::T1))))
      | _=>gd (bw (aL n (len l)) 16777216) (I4 h X (fun h1=>lR (.row t (cat (tk (α:=t.T) n l0) l)) h1 (fun q h2=>K (.tw (.loc q) e.size) h2 (.p2 (cE q) (gT X) T1))))) else none
     | none=>none)
    | .tf X z off n=>br (aj (zN n) 0) (gd (bw (len l) 16777216) (lR (.row t l) h (fun q h'=>K (.tw (.loc q) e.size) h' (.pt (cE q) T1)))) (hP h X (fun t' l0=>match eG (.aH t') (.aH t) l0 with
     | some l0=>bif Nat.beq z e.size then gd (bx 0 (len l)) (gd (bw (aL n (len l)) 16777216) (lR (.row t (cat (tk n (dr (α:=t.T) off l0)) l)) h (fun q h2=>K (.tw (.loc q) e.size) h2 (.p2 (cE q) (gT X) T1)))) else none
     | none=>none))
    | _=>none) else none
   | none=>none
  | none=>none
 | none=>none
theorem g9 (t:Ty) (a b:List t.T):(cat a b).flatMap (aA t)=a.flatMap (aA t)++b.flatMap (aA t):=List.flatMap_append
theorem su (t:Ty) (n:Nat) (l:List t.T):(tk n l).flatMap (aA t)=(l.flatMap (aA t)).take (n*t.size):=by
 have:=gU t l 0 n
 simpa [tk] using this.symm
theorem sv (t:Ty) (n:Nat) (l:List t.T):(dr n l).flatMap (aA t)=(l.flatMap (aA t)).drop (n*t.size):=by
 have:=gU t l n l.length
 rw [za (by rw [List.length_drop,bb];omega),za (by simp)] at this
 exact this.symm
theorem GK {t:Ty} {X:Ref} {l:List t.T} {h1 h2:H} {T1:List Nat} {pv:A} (hd:∀c,o.op≠.defer c) (hX:xP X=true) (e1:hp h1=app [.del X.id] (hp h)) (hn:h1.aQ=h.aQ) (hq:h1.aQ<16777216) (hf:(hp h1).fr h1.aQ) (e2:hp h2=app [.new h1.aQ (fu.row t l).low] (hp h1))
  (k:∀S2,Agree (.p2 (cE h1.aQ) (gT X) T1) (hp h) S2→S2.fr h1.aQ→dH P o ρ S2 ((S2.del X.id).new h1.aQ (.cells (l.flatMap (aA t)))) pv):Step P o ρ h h2 (.p2 (cE h1.aQ) (gT X) T1) pv:=
 .Rb [.del X.id,.new h1.aQ (.cells (l.flatMap (aA t)))] (by rw [e2,e1];rfl) (fun u hu=>by
  rcases List.mem_cons.1 hu with rfl | hu
  ·exact bB hX (.tail _ (.head _))
  ·rcases zF.1 hu with rfl;exact aB (o:=h1.aQ) hq (.head _)) (fun u hu=>by
  show aF (.wr [cE h1.aQ,gT X]) u.id=true
  rcases List.mem_cons.1 hu with rfl | hu
  ·exact bB hX (.tail _ (.head _))
  ·rcases zF.1 hu with rfl;exact aB (o:=h1.aQ) hq (.head _)) (fun S2 hA=>k S2 hA ((hA _ (aB hq (.head _))).2.2 (by rw [e1] at hf;exact hf))) hd
theorem EK (hE:bL P E) {T:Nat} {x y:Operand} (ho:o.op = .call { callee:=.builtin .append,args:=#[x,y],argTypes:=#[T,T] }) (hr:Jp E T (ρ x) (ρ y) h K=some r):Out P o ρ h K r:=by
 have hd:∀c,o.op≠.defer c:=by rw [ho];intro c e;cases e
 unfold Jp at hr
 split at hr
 ·rename_i el he
  have hT:=mX hE he
  split at hr
  ·rename_i e ht
   have hk:=hE.cS _ _ ht
   split at hr
   ·rename_i t uM
    have l5:=hk.ts t uM
    obtain ⟨hb,hr⟩:=af hr
    simp only [zC] at hb
    have h0:=aU hb.1
    have hb:=Nat.le_of_ble_eq_true hb.2
    have CK:∀{n:Nat},n≤16777216→n*e.bytes≤140737488355328∧n≤maxLen:=fun hn=>⟨Nat.le_trans (zW _ hn) hb,by unfold maxLen;omega⟩
    obtain ⟨l,T1,hr,sc⟩:=rj hr
    rw [l5] at sc
    cases Bk:rZ (ρ x) with
    | true=>
     rw [Bk] at hr;simp only [cond_true] at hr
     obtain ⟨h2,hr⟩:=bp hr
     have h2:l.length≤16777216:=h2
     obtain ⟨h',k1,hq,hf,hh⟩:=eM hr
     exact ⟨_,_,_,k1,.Rb _ hh (fun u hu=>by rcases zF.1 hu with rfl;exact aB (o:=h.aQ) hq (.head _)) (fun u hu=>by rcases zF.1 hu with rfl;exact aB (l:=[cE h.aQ]) (w:=false) (s:=[]) (o:=h.aQ) hq (.head _))
      (fun S2 hA=>kZ ho hT hk.ti (fun g v hv=>hv.xT Bk) (sc S2 (hA.mono fun i hi=>.tail _ hi)) ((hA _ (aB hq (.head _))).2.2 hf) (CK h2).1 (CK h2).2) hd⟩
    | false=>
     rw [Bk] at hr;simp only [cond_false] at hr
     split at hr
     ·rename_i X z hx
      obtain ⟨t',l0,hr,hX,dI⟩:=dz hr
      split at hr
      ·rename_i Re hl
       obtain ⟨e',rfl⟩:=bY hl
       cases e'
       obtain ⟨hz,hr⟩:=af hr
       have hz:=beq_eq hz
       obtain ⟨h2,hr⟩:=bp hr
       have h2:l0.length+l.length≤16777216:=h2
       obtain ⟨h1,hr,_,e1,hn⟩:=w8 hr
       obtain ⟨h',k1,hq,hf,hh⟩:=eM hr
       refine ⟨_,_,_,k1,GK hd hX e1 hn hq hf hh (fun S2 hA mB=>?_)⟩
       have dc:=(hA _ (bB hX (.tail _ (.head _)))).1.trans dI
       have:=pn (P:=P) (n:=l0.length) (m:=l.length) (z:=e.size) ho hT hk.ti h0 dc (fun g w v hI hv=>by
        rw [hx,hz,←l5] at hv
        rcases hv.oR hI (by rw [l5];exact h0) dc with ⟨ad,_,rfl,rfl⟩ | ⟨b,s,cap,d,bG,rfl,k2,k3,k4,k5⟩
        ·exact .inl ⟨ad,rfl,rfl⟩
        ·exact .inr ⟨b,s,cap,d,bG,rfl,k2,k3,k4,by rw [←l5];exact k5⟩) (by rw [bb,l5];exact Nat.le_refl _) (sc S2 (hA.mono fun i hi=>.tail _ (.tail _ hi))) mB (CK h2).1 (CK h2).2
       rw [za (by rw [bb,l5];exact Nat.le_refl _),←g9] at this
       exact this
      ·cases hr
     ·rename_i X z n hx
      obtain ⟨t',l0,hr,hX,dI⟩:=dz hr
      split at hr
      ·rename_i Re hl
       obtain ⟨e',rfl⟩:=bY hl
       cases e'
       obtain ⟨hz,hr⟩:=af hr
       have hz:=beq_eq hz
       split at hr
       ·obtain ⟨h2,hr⟩:=bp hr
        have h2:n+l.length≤l0.length:=h2
        obtain ⟨h1,k1,k2⟩:=lD hX hr
        refine ⟨_,_,_,k1,⟨fun i hi=>k2.1 i (nB (fun j hj=>by rcases zF.1 hj with rfl;exact .head _) hi),fun i hi=>k2.1 i (nB (T:=gT X::T1) (fun j hj=>by rcases zF.1 hj with rfl;exact .head _) (qD hi)),fun S2 hA=>?_⟩⟩
        refine dH.GG (dH.bg fun g w a hI hv=>?_) hd
        have hv:=hv x (by simp [ho,Op.operands,Call.operands])
        have dc:=(hA _ (bB hX (.head _))).1.trans dI
        have Ou:¬(hp h).fr X.id:=fun hf=>by
         have Bs:=(hA _ (bB hX (.head _))).2.2 hf
         have:=hI.fresh _ Bs
         rw [hx] at hv
         generalize a.eval x=vx at hv
         cases hv with
         | qG _ _ _ _ ad bG=>rw [bG] at this;cases this
         | ts _ _ _ _ b cap s bG=>rw [bG] at this;cases this
        have e1:=k2.2 Ou
        have RD:aF (.wr (gT X::T1)) X.id=true:=bB hX (.head _)
        rw [e1,fS (fun u hu=>by rcases zF.1 hu with rfl;exact RD) hA]
        have:=qt (P:=P) (n:=n) (m:=l.length) (X:=X) ho hT hk.ti h0 dc (by rw [hx,hz]) (by rw [bb,l5];exact zW _ h2) (sc S2 (hA.mono fun i hi=>.tail _ hi))
        have e2:put (l0.flatMap (aA t)) (n*e.size) (l.flatMap (aA t))=(cat (tk n l0) (cat l (dr (aL n (len l)) l0))).flatMap (aA t):=by
         rw [g9,g9,su,sv,l5]
         unfold put
         rw [bb,l5,←Nat.add_mul];rfl
        rw [e2] at this
        rw [hz]
        exact this
       ·obtain ⟨h2,hr⟩:=bp hr
        have h2:n+l.length≤16777216:=h2
        obtain ⟨h1,hr,_,e1,hn⟩:=w8 hr
        obtain ⟨h',k1,hq,hf,hh⟩:=eM hr
        refine ⟨_,_,_,k1,GK hd hX e1 hn hq hf hh (fun S2 hA mB=>dH.bg fun g0 w0 a0 OM Ir=>?_)⟩
        have dc:=(hA _ (bB hX (.tail _ (.head _)))).1.trans dI
        have hle:n≤l0.length:=by
         have hv:=Ir x (by simp [ho,Op.operands,Call.operands])
         rw [hx,hz,←l5] at hv
         have:=qF OM (by rw [l5];exact h0) dc hv
         omega
        have:=pn (P:=P) (n:=n) (m:=l.length) (z:=e.size) ho hT hk.ti h0 dc (fun g w v hI hv=>by
         rw [hx,hz] at hv
         cases hv with
         | qG _ _ _ _ ad _ hn=>exact .inl ⟨ad,rfl,by omega⟩
         | ts _ _ _ _ b cap s bG k2 k3 k4 k5 d k6=>
          rw [Nat.zero_add] at k5
          exact .inr ⟨b,s,cap,d,bG,rfl,fun hc=>by rw [k6 hc,Nat.zero_mul],k2,k3,k5⟩) (by rw [bb,l5];exact zW _ hle) (sc S2 (hA.mono fun i hi=>.tail _ (.tail _ hi))) mB (CK h2).1 (CK h2).2
        rw [←l5,←su,←g9] at this
        rw [←l5]
        exact this
      ·cases hr
     ·rename_i X z off n hx
      rcases nZ hr with ⟨JN,hr⟩ | ⟨_,hr⟩
      ·obtain ⟨h2,hr⟩:=bp hr
       have h2:l.length≤16777216:=h2
       have JN:n=0:=by have:=of_decide_eq_true JN;unfold zN at this;omega
       obtain ⟨h',k1,hq,hf,hh⟩:=eM hr
       exact ⟨_,_,_,k1,.Rb _ hh (fun u hu=>by rcases zF.1 hu with rfl;exact aB (o:=h.aQ) hq (.head _)) (fun u hu=>by rcases zF.1 hu with rfl;exact aB (l:=[cE h.aQ]) (w:=false) (s:=[]) (o:=h.aQ) hq (.head _))
        (fun S2 hA=>kZ ho hT hk.ti (fun g v hv=>by rw [hx,JN] at hv;cases hv<;>exact ⟨_,rfl⟩) (sc S2 (hA.mono fun i hi=>.tail _ hi)) ((hA _ (aB hq (.head _))).2.2 hf) (CK h2).1 (CK h2).2) hd⟩
      obtain ⟨t',l0,hr,hX,dI⟩:=dz hr
      split at hr
      ·rename_i Re hl
       obtain ⟨e',rfl⟩:=bY hl
       cases e'
       obtain ⟨hz,hr⟩:=af hr
       have hz:=beq_eq hz
       obtain ⟨h3,hr⟩:=bp hr
       have h3:0<l.length:=h3
       obtain ⟨h2,hr⟩:=bp hr
       have h2:n+l.length≤16777216:=h2
       obtain ⟨h',k1,hq,hf,hh⟩:=eM hr
       refine ⟨_,_,_,k1,.Rb _ hh (fun u hu=>by rcases zF.1 hu with rfl;exact aB (o:=h.aQ) hq (.head _)) (fun u hu=>by rcases zF.1 hu with rfl;exact aB (l:=[cE h.aQ,gT X]) (w:=false) (s:=[]) (o:=h.aQ) hq (.head _)) (fun S2 hA=>dH.bg fun g0 w0 a0 OM Ir=>?_) hd⟩
       have dc:=(hA _ (bB hX (.tail _ (.head _)))).1.trans dI
       have hle:off+n≤l0.length:=by
        have hv:=Ir x (by simp [ho,Op.operands,Call.operands])
        rw [hx,hz,←l5] at hv
        generalize a0.eval x=vx at hv
        cases hv with
        | zc _ _ _ _ _ _ hn=>omega
        | tf _ _ _ _ b s bG _ hs=>
         rcases OM.cells _ _ dc with ⟨k1,_⟩ | ⟨b',CU,k1,_⟩
         ·rw [k1] at bG;cases bG
         rw [k1] at bG
         simp only [zI,zU] at bG
         obtain ⟨_,rfl⟩:=bG
         simp only [bb] at hs
         exact Nat.le_of_mul_le_mul_right hs (by rw [l5];exact h0)
       have:=oy (P:=P) (off:=off*e.size) (n:=n) (m:=l.length) (z:=e.size) ho hT hk.ti h0 (fun g w v hI hv=>by
        rw [hx,hz] at hv
        cases hv with
        | zc _ _ _ _ ad _ hn=>exact .inl ⟨ad,rfl,by omega⟩
        | tf _ _ _ _ b s bG _ _ d k6=>exact .inr ⟨b,s,d,bG,rfl,k6⟩) dc (by rw [bb,l5,←Nat.add_mul];exact zW _ hle) (sc S2 (hA.mono fun i hi=>.tail _ (.tail _ hi))) h3 ((hA _ (aB hq (.head _))).2.2 hf) (CK h2).1 (CK h2).2
       rw [←l5,gU,←g9] at this
       rw [←l5]
       exact this
      ·cases hr
     ·cases hr
   ·cases hr
  ·cases hr
 ·cases hr
end
end
section
open Go.RowKit
theorem lI {α β:Type} {f:α→List β} {s:Nat} (hf:∀x,(f x).length=s) (l:List α):(l.flatMap f).length=l.length*s:=by
 induction l with
 | nil=>simp
 | cons a l ih=>rw [List.flatMap_cons,zY,ih,hf,zR,Nat.succ_mul,Nat.add_comm]
theorem vD {α β:Type} {f:α→List β} {s:Nat} (hf:∀x,(f x).length=s) (l:List α) (off n:Nat):((l.flatMap f).drop (off*s)).take (n*s)=((l.drop off).take n).flatMap f:=by
 have h1:l.flatMap f=(l.take off).flatMap f++(l.drop off).flatMap f:=by rw [←List.flatMap_append,zP]
 by_cases hl:off≤l.length
 ·have h2:((l.take off).flatMap f).length=off*s:=by rw [lI hf,List.length_take,Nat.min_eq_left hl]
  rw [h1,List.drop_append,List.drop_eq_nil_of_le (by omega),List.nil_append,h2,Nat.sub_self,List.drop_zero]
  generalize l.drop off=k
  have h3:k.flatMap f=(k.take n).flatMap f++(k.drop n).flatMap f:=by rw [←List.flatMap_append,zP]
  by_cases hk:n≤k.length
  ·have h4:((k.take n).flatMap f).length=n*s:=by rw [lI hf,List.length_take,Nat.min_eq_left hk]
   rw [h3,List.take_append_of_le_length (by omega),za (by omega)]
  ·rw [za (by rw [lI hf];exact zW _ (by omega)),za (l:=k) (by omega)]
 ·rw [List.drop_eq_nil_of_le (as:=l) (by omega),List.drop_eq_nil_of_le (by rw [lI hf];exact zW _ (by omega))]
  simp
def oC (ad:Option Addr) (z lo hi c:Nat):Value:=.slice (if c=lo then ad else ad.map (·.add (lo*z))) (hi-lo) (c-lo)
theorem V.uS {g:G} {t:Ty} {f f':Bool} {l:List t.T} {lo hi:Nat} {v:Value} (hv:V g (.tl t f l) v) (h1:lo≤hi) (h2:hi≤l.length) :
  ∃ad cap,v = .slice ad l.length cap∧l.length≤cap∧(f=true→cap=l.length)∧∀c,hi≤c→c≤cap→(f'=true→c=hi)→V g (.tl t f' (tk (hi-lo) (dr lo l))) (oC ad t.size lo hi c):=by
 cases hv with
 | tl _ _ _ _ hd=>
  generalize oJ:List.map (cq t) l=es at hd
  have nT:es.length=l.length:=by rw [←oJ,zH]
  have CI:es.flatten=l.flatMap (cq t):=by rw [←oJ,j0]
  cases hd with
  | rn=>
   have:l=[]:=zZ nT.symm
   subst this
   refine ⟨_,0,rfl,Nat.le_refl _,fun _=>rfl,fun c k1 k2 k3=>?_⟩
   have hc:c=0:=by omega
   have hl:lo=0:=by simp at h2;omega
   have hh:hi=0:=by simpa using h2
   subst hc hl hh
   exact .tl t f' _ _ (by rw [show tk (0-0) (dr 0 ([]:List t.T))=[] by simp [tk]];exact .rn _ _ _)
  | sl _ _ _ a cap vs hz hc hf hn hx hl hm CE=>
   rw [nT] at hc hf
   rw [nT]
   refine ⟨_,cap,rfl,hc,hf,fun c k1 k2 k3=>?_⟩
   unfold oC
   by_cases oB:c=lo
   ·have e1:hi-lo=0:=by omega
    rw [if_pos oB,e1,show c-lo=0 by omega]
    exact .tl t f' _ _ (by rw [show tk 0 (dr lo l)=[] by simp [tk]];exact .rn _ _ _)
   ·rw [if_neg oB]
    cases a with
    | none=>have:=hn rfl;omega
    | some p=>
     have hlen:(tk (hi-lo) (dr lo l)).length=hi-lo:=by simp [tk,dr];omega
     have Bf:=vD (f:=cq t) (fun x=>de t x) l lo (hi-lo)
     rw [CI] at hl CE
     have e2:((tk (hi-lo) (dr lo l)).map (cq t)).flatten=((l.flatMap (cq t)).drop (lo*t.size)).take ((hi-lo)*t.size):=by rw [j0,Bf];rfl
     have:=VD.sl (M:=g.mem) t.size f' ((tk (hi-lo) (dr lo l)).map (cq t)) (some (p.1,p.2+lo*t.size)) (c-lo) ((vs.drop (lo*t.size)).take ((hi-lo)*t.size))
      (fun e he=>by obtain ⟨x,_,rfl⟩:=List.mem_map.1 he;exact de t x) (by rw [zH,hlen];omega) (fun h=>by rw [zH,hlen,k3 h]) (fun h=>by cases h) (by omega)
      (by rw [e2];simp only [List.length_take,List.length_drop,hl])
      (fun q j x hq hj=>by
       cases hq
       rw [List.getElem?_take] at hj
       split at hj
       ·rw [List.getElem?_drop] at hj
        have:=hm p _ x rfl hj
        rw [←Nat.add_assoc] at this;exact this
       ·cases hj)
      (fun j d x hj Rw=>by
       rw [e2] at hj
       rw [List.getElem?_take] at hj Rw
       split at hj
       ·rename_i fp
        rw [if_pos fp] at Rw
        rw [List.getElem?_drop] at hj Rw
        exact CE _ d x hj Rw
       ·cases hj)
     rw [zH,hlen] at this
     have e3:Option.map (fun x:Addr=>x.add (lo*t.size)) (Option.map RM (some p))=Option.map RM (some (p.1,p.2+lo*t.size)):=congrArg some (Addr.add_lit _ _ _)
     rw [e3]
     exact .tl t f' _ _ this
section
variable {P:Program} {E:Env} {o:Oper} {ρ:Operand→A} {h:H} {β:Type} {K:A→H→Fp→Option β} {r:β}
def yA (ox:Option A) (d:Nat) (k:Nat→Option β):Option β:=match ox with
 | none=>k d
 | some (.v (.int _ m))=>gd (bq m) (k (nN m))
 | _=>none
theorem jm {x:Option Operand} {d:Nat} {k:Nat→Option β} (hr:yA (x.map ρ) d k=some r):∃n,k n=some r∧Bd ρ d x n:=by
 unfold yA at hr
 split at hr
 ·rename_i hx
  cases x with
  | none=>exact ⟨d,hr,rfl⟩
  | some y=>cases hx
 ·rename_i kd m hx
  cases x with
  | none=>cases hx
  | some y=>
   obtain ⟨h1,h2⟩:=bp hr
   refine ⟨_,h2,kd,?_⟩
   rw [l3 h1]
   exact Option.some.inj hx
 ·cases hr
theorem V.FU {g:G} {S:Hp} {w:World} (hI:Inv g S w) {X:Ref} {t:Ty} {l:List t.T} (h0:0<t.size) (ho:S.ob X.id=some (.cells (l.flatMap (aA t)))) {v:Value} (hv:V g (.tw X t.size) v) {lo hi:Nat} (h1:lo≤hi) (h2:hi≤l.length) :
  ∃ad cap,v = .slice ad l.length cap∧l.length≤cap∧V g (.ts X t.size lo (hi-lo)) (oC ad t.size lo hi cap)∧V g (.tf X t.size lo (hi-lo)) (oC ad t.size lo hi hi):=by
 have hlen:=bb t l
 rcases hv.oR hI h0 ho with ⟨ad,bG,rfl,rfl⟩ | ⟨b,s,cap,d,bG,rfl,k2,k3,k4,k5⟩
 ·have hh:hi=0:=by simpa using h2
  have hl:lo=0:=by omega
  subst hh hl
  exact ⟨ad,0,rfl,Nat.le_refl _,.qG X t.size 0 _ ad bG rfl,.zc X t.size 0 _ ad bG rfl⟩
 ·have hs:s.1=l.length*t.size:=by
   rcases hI.cells _ _ ho with ⟨k1,_⟩ | ⟨b',CU,k1,_⟩
   ·rw [k1] at bG;cases bG
   rw [k1] at bG
   simp only [zI,zU] at bG
   obtain ⟨_,rfl⟩:=bG
   exact hlen
  have jG:(lo+(hi-lo))*t.size≤s.1:=by rw [hs];exact zW _ (by omega)
  refine ⟨_,cap,rfl,k3,?_,?_⟩
  ·unfold oC
   by_cases hc:cap=lo
   ·rw [if_pos hc]
    refine .ts X t.size lo (hi-lo) b (cap-lo) s bG (by omega) (by omega) jG ?_ d (fun h=>by omega) ?_
    ·rw [show lo+(cap-lo)=cap by omega];exact k5
    ·rw [show lo+(cap-lo)=cap by omega,hs];exact zW _ k3
   ·rw [if_neg hc,Option.map_some,Addr.add_lit]
    have hd:=k2 (by omega)
    refine .ts X t.size lo (hi-lo) b (cap-lo) s bG (by omega) (by omega) jG ?_ _ (fun _=>by omega) ?_
    ·rw [show lo+(cap-lo)=cap by omega];exact k5
    ·rw [show lo+(cap-lo)=cap by omega,hs];exact zW _ k3
  ·unfold oC
   by_cases hc:hi=lo
   ·rw [if_pos hc]
    exact .tf X t.size lo (hi-lo) b s bG (by omega) jG d (fun h=>by omega)
   ·rw [if_neg hc,Option.map_some,Addr.add_lit]
    have hd:=k2 (by omega)
    exact .tf X t.size lo (hi-lo) b s bG (by omega) jG _ (fun _=>by omega)
theorem V.LZ {g:G} {S:Hp} {w:World} (hI:Inv g S w) {X:Ref} {t:Ty} {l:List t.T} (h0:0<t.size) (ho:S.ob X.id=some (.cells (l.flatMap (aA t)))) {off n:Nat} {v:Value} (hv:V g (.ts X t.size off n) v) {lo hi:Nat} (h1:lo≤hi) (h2:off+hi≤l.length) :
  ∃ad cap,v = .slice ad n cap∧hi≤cap∧V g (.ts X t.size (off+lo) (hi-lo)) (oC ad t.size lo hi cap)∧V g (.tf X t.size (off+lo) (hi-lo)) (oC ad t.size lo hi hi):=by
 have hlen:=bb t l
 cases hv with
 | qG _ _ _ _ ad bG hn=>
  rcases hI.cells _ _ ho with ⟨_,k2⟩ | ⟨b',CU,k1,_⟩
  ·rw [k2] at hlen
   have hl:l.length=0:=by
    rcases Nat.eq_zero_or_pos l.length with h | h
    ·exact h
    ·have:0<l.length*t.size:=Nat.mul_pos h h0
     simp at hlen;omega
   have hh:hi=0:=by omega
   have hl:lo=0:=by omega
   have hof:off=0:=by omega
   have TT:n=0:=by omega
   subst hh hl hof TT
   exact ⟨ad,0,rfl,Nat.le_refl _,.qG X t.size _ _ ad bG rfl,.zc X t.size _ _ ad bG rfl⟩
  ·rw [k1] at bG;cases bG
 | ts _ _ _ _ b cap s bG hn hx hs hp d hd hq=>
  have JL:s.1=l.length*t.size:=by
   rcases hI.cells _ _ ho with ⟨k1,_⟩ | ⟨b',CU,k1,_⟩
   ·rw [k1] at bG;cases bG
   rw [k1] at bG
   simp only [zI,zU] at bG
   obtain ⟨_,rfl⟩:=bG
   exact hlen
  have abt:l.length≤off+cap:=by rw [JL] at hq;exact Nat.le_of_mul_le_mul_right hq h0
  have jG:(off+lo+(hi-lo))*t.size≤s.1:=by rw [JL];exact zW _ (by omega)
  refine ⟨_,cap,rfl,by omega,?_,?_⟩
  ·unfold oC
   by_cases hc:cap=lo
   ·rw [if_pos hc]
    refine .ts X t.size (off+lo) (hi-lo) b (cap-lo) s bG (by omega) (by omega) jG ?_ d (fun h=>by omega) ?_
    ·rw [show off+lo+(cap-lo)=off+cap by omega];exact hp
    ·rw [show off+lo+(cap-lo)=off+cap by omega];exact hq
   ·rw [if_neg hc,Option.map_some,Addr.add_lit]
    have hd:=hd (by omega)
    refine .ts X t.size (off+lo) (hi-lo) b (cap-lo) s bG (by omega) (by omega) jG ?_ _ (fun _=>by rw [hd,Nat.add_mul]) ?_
    ·rw [show off+lo+(cap-lo)=off+cap by omega];exact hp
    ·rw [show off+lo+(cap-lo)=off+cap by omega];exact hq
  ·unfold oC
   by_cases hc:hi=lo
   ·rw [if_pos hc]
    exact .tf X t.size (off+lo) (hi-lo) b s bG (by omega) jG d (fun h=>by omega)
   ·rw [if_neg hc,Option.map_some,Addr.add_lit]
    have hd:=hd (by omega)
    exact .tf X t.size (off+lo) (hi-lo) b s bG (by omega) jG _ (fun _=>by rw [hd,Nat.add_mul])
def zg (E:Env) (T:Nat) (px:A) (lo hi mx:Option A) (same:Bool) (h:H) (K:A→H→Fp→Option β):Option β:=match bZ E.cS T with
 | some ⟨.slice el,_,_,_,_,_,_⟩=>match bZ E.cS el with
  | some e=>match px with
   | .e0=>yA lo 0 (fun l=>yA hi 0 (fun n=>gd (bw l n) (gd (bw n 0) (match mx with
    | none=>K .e0 h (.rd [])
    | some _=>bif same && hi.isSome then K .e0 h (.rd []) else none))))
   | .tl t f x=>bif Nat.beq e.size t.size then yA lo 0 (fun l=>yA hi (len x) (fun n=>gd (bw l n) (gd (bw n (len x)) (match mx with
    | none=>K (.tl t (f && hi.isNone) (tk (ay n l) (dr l x))) h .no
    | some _=>bif same && hi.isSome then K (.tl t true (tk (ay n l) (dr l x))) h .no else none)))) else none
   | .tw X z=>hP h X (fun t x=>bif Nat.beq z e.size && Nat.beq z t.size && Nat.blt 0 z then yA lo 0 (fun l=>yA hi (len x) (fun n=>gd (bw l n) (gd (bw n (len x)) (match mx with
    | none=>K (.ts X z l (ay n l)) h (.rd [gT X])
    | some _=>bif same && hi.isSome then K (.tf X z l (ay n l)) h (.rd [gT X]) else none)))) else none)
   | .ts X z off m=>hP h X (fun t x=>bif Nat.beq z e.size && Nat.beq z t.size && Nat.blt 0 z then yA lo 0 (fun l=>yA hi m (fun n=>gd (bw l n) (gd (bw (aL off n) (len x)) (match mx with
    | none=>K (.ts X z (aL off l) (ay n l)) h (.rd [gT X])
    | some _=>bif same && hi.isSome then K (.tf X z (aL off l) (ay n l)) h (.rd [gT X]) else none)))) else none)
   | _=>none
  | none=>none
 | some ⟨.array n el,_,_,_,_,_,_⟩=>match bZ E.cS el with
  | some e=>bif lo.isNone && hi.isNone && mx.isNone && Nat.ble n 16777216 then (match px with
   | .tp X π=>K (.aa X π n e.size) h .no
   | .ptr q off=>match h.t.get q with
    | some (.cells cs)=>bif Nat.blt q 16777216 && Nat.ble (off+n*e.size) cs.length then K (.sl q off e.size n) h (.rd [cE q]) else none
    | _=>none
   | _=>none) else none
  | none=>none
 | _=>none
theorem isNone_map {x:Option Operand} (h:(x.map ρ).isNone=true):x=none:=by cases x with | none=>rfl | some y=>cases h
theorem isSome_map {x:Option Operand} (h:(x.map ρ).isSome=true):∃y,x=some y:=by cases x with | none=>cases h | some y=>exact ⟨y,rfl⟩
theorem oI {S:Hp} {T E':TypeId} {x:Operand} {lo hi mx:Option Operand} {z l n d:Nat} {pv pw:A} (ho:o.op = .slice T x lo hi mx) (hT:P.underlying T=some (.slice E')) (hE:dv P E' z) (sh:Bd ρ 0 lo l) (si:Bd ρ d hi n) (h1:l≤n)
  (hr:∀g w v,Inv g S w→V g (ρ x) v→∃ad cap,v = .slice ad d cap∧n≤cap∧(mx=none→V g pv (oC ad z l n cap))∧(mx=hi→V g pw (oC ad z l n n))):(mx=none→dH P o ρ S S pv)∧(mx=hi→hi≠none→dH P o ρ S S pw):=
 ⟨fun hm=>by
  subst hm
  exact xF ho hT hE sh h1 (fun g w v hI hv=>let ⟨ad,cap,k1,k2,k3,_⟩:=hr g w v hI hv;⟨ad,d,cap,k1,si,k2,k3 rfl⟩),
 fun hm hn=>by
  subst hm
  cases JR:mx with
  | none=>exact absurd JR hn
  | some y=>
   subst JR
   exact pg (hi:=y) (mx:=y) ho hT hE sh si si h1 (Nat.le_refl _) (fun g w v hI hv=>let ⟨ad,cap,k1,k2,_,k4⟩:=hr g w v hI hv;⟨ad,d,cap,k1,k2,k4 rfl⟩)⟩
theorem rm (hE:bL P E) {T:Nat} {x:Operand} {lo hi mx:Option Operand} {same:Bool} (ho:o.op = .slice T x lo hi mx) (hs:same=true→mx=hi) (hr:zg E T (ρ x) (lo.map ρ) (hi.map ρ) (mx.map ρ) same h K=some r):Out P o ρ h K r:=by
 have hd:∀c,o.op≠.defer c:=by rw [ho];intro c e;cases e
 unfold zg at hr
 split at hr
 ·rename_i el _ _ _ _ _ _ ht
  have hT:=(hE.cS _ _ ht).u
  split at hr
  ·rename_i e he
   have hz:=(hE.cS _ _ he).ti.size
   have fin:∀{T':List Nat} {pv pw:A} {Sx:Hp→Prop},(∀S2,Agree (.rd T') (hp h) S2→(mx=none→dH P o ρ S2 S2 pv)∧(mx=hi→hi≠none→dH P o ρ S2 S2 pw))→(match mx.map ρ with | none=>K pv h (.rd T') | some _=>bif same && (hi.map ρ).isSome then K pw h (.rd T') else none)=some r→Out P o ρ h K r:=fun {T' pv pw Sx} k hr=>by
    cases hm:mx with
    | none=>
     rw [hm] at hr
     exact .read _ hr (fun S2 hA=>(k S2 hA).1 hm) hd
    | some y=>
     rw [hm] at hr
     obtain ⟨h1,hr⟩:=af hr
     simp only [zC] at h1
     obtain ⟨y',vq⟩:=isSome_map h1.2
     exact .read _ hr (fun S2 hA=>(k S2 hA).2 (hs h1.1) (by rw [vq];intro h;cases h)) hd
   split at hr
   ·rename_i hx
    obtain ⟨l,hr,sh⟩:=jm hr
    obtain ⟨n,hr,si⟩:=jm hr
    obtain ⟨h1,hr⟩:=bp hr
    obtain ⟨h2,hr⟩:=bp hr
    have h1:l≤n:=h1
    have h2:n≤0:=h2
    have hn:n=0:=by omega
    have hl:l=0:=by omega
    subst hn hl
    exact fin (T':=[]) (Sx:=fun _=>True) (fun S2 _=>oI (pw:=.e0) ho hT hz sh si h1 (fun g w v hI hv=>by
     rw [hx] at hv
     cases hv with
     | e0 ad=>exact ⟨ad,0,rfl,Nat.le_refl _,fun _=>.e0 _,fun _=>.e0 _⟩)) hr
   ·rename_i t f x' hx
    obtain ⟨hq,hr⟩:=af hr
    have hq:=beq_eq hq
    obtain ⟨l,hr,sh⟩:=jm hr
    obtain ⟨n,hr,si⟩:=jm hr
    obtain ⟨h1,hr⟩:=bp hr
    obtain ⟨h2,hr⟩:=bp hr
    have h1:l≤n:=h1
    have h2:n≤x'.length:=h2
    refine fin (T':=[]) (Sx:=fun _=>True) (fun S2 _=>oI ho hT hz sh si h1 (fun g w v hI hv=>?_)) hr
    rw [hx] at hv
    obtain ⟨ad,cap,k1,k2,k3,_⟩:=hv.uS (f':=f && (hi.map ρ).isNone) h1 h2
    refine ⟨ad,cap,k1,by omega,fun hm=>?_,fun _=>?_⟩
    ·obtain ⟨ad',W3,j1,j2,j3,j4⟩:=hv.uS (f':=f && (hi.map ρ).isNone) h1 h2
     rw [k1] at j1;cases j1
     rw [hq]
     refine j4 cap (by omega) (Nat.le_refl _) (fun hf=>?_)
     simp only [zC] at hf
     have hh:=isNone_map hf.2
     subst hh
     have:n=len x':=si
     rw [k3 hf.1,this];rfl
    ·obtain ⟨ad',W3,j1,j2,j3,j4⟩:=hv.uS (f':=true) h1 h2
     rw [k1] at j1;cases j1
     rw [hq]
     exact j4 n (Nat.le_refl _) (by omega) (fun _=>rfl)
   ·rename_i X z hx
    obtain ⟨t,x',hr,hX,dI⟩:=dz hr
    obtain ⟨hq,hr⟩:=af hr
    simp only [zC] at hq
    have Om:=beq_eq hq.1.1
    have D4:=beq_eq hq.1.2
    have h0:=aU hq.2
    obtain ⟨l,hr,sh⟩:=jm hr
    obtain ⟨n,hr,si⟩:=jm hr
    obtain ⟨h1,hr⟩:=bp hr
    obtain ⟨h2,hr⟩:=bp hr
    have h1:l≤n:=h1
    have h2:n≤x'.length:=h2
    refine fin (T':=[gT X]) (Sx:=fun _=>True) (fun S2 hA=>oI ho hT hz sh si h1 (fun g w v hI hv=>?_)) hr
    have dc:=(hA _ (bB hX (.head _))).1.trans dI
    rw [hx,D4] at hv
    obtain ⟨ad,cap,k1,k2,k3,k4⟩:=hv.FU hI (by omega) dc h1 h2
    rw [←D4] at k3 k4
    rw [←Om]
    exact ⟨ad,cap,k1,by omega,fun _=>k3,fun _=>k4⟩
   ·rename_i X z off m hx
    obtain ⟨t,x',hr,hX,dI⟩:=dz hr
    obtain ⟨hq,hr⟩:=af hr
    simp only [zC] at hq
    have Om:=beq_eq hq.1.1
    have D4:=beq_eq hq.1.2
    have h0:=aU hq.2
    obtain ⟨l,hr,sh⟩:=jm hr
    obtain ⟨n,hr,si⟩:=jm hr
    obtain ⟨h1,hr⟩:=bp hr
    obtain ⟨h2,hr⟩:=bp hr
    have h1:l≤n:=h1
    have h2:off+n≤x'.length:=h2
    refine fin (T':=[gT X]) (Sx:=fun _=>True) (fun S2 hA=>oI ho hT hz sh si h1 (fun g w v hI hv=>?_)) hr
    have dc:=(hA _ (bB hX (.head _))).1.trans dI
    rw [hx,D4] at hv
    obtain ⟨ad,cap,k1,k2,k3,k4⟩:=hv.LZ hI (by omega) dc h1 h2
    rw [←D4] at k3 k4
    rw [←Om]
    exact ⟨ad,cap,k1,k2,fun _=>k3,fun _=>k4⟩
   ·cases hr
  ·cases hr
 ·rename_i n el _ _ _ _ _ _ ht
  have hT:=(hE.cS _ _ ht).u
  split at hr
  ·rename_i e he
   have hz:=(hE.cS _ _ he).ti.size
   obtain ⟨h1,ko⟩:=af hr
   clear hr
   simp only [zC] at h1
   have e1:=isNone_map h1.1.1.1
   have e2:=isNone_map h1.1.1.2
   have e3:=isNone_map h1.1.2
   have hn:=Nat.le_of_ble_eq_true h1.2
   clear h1
   subst e1 e2 e3
   split at ko
   ·rename_i X π hx
    exact .pure ko (fun S2=>lY ho hT ⟨_,hz⟩ (fun g w v hI hv=>by
     rw [hx] at hv
     cases hv with
     | tp _ _ b s bG hk=>exact ⟨b,_,rfl,.aa X π n e.size b n s bG hk (Nat.le_refl _) (by unfold maxLen;omega)⟩)) hd
   ·rename_i q off hx
    split at ko
    ·rename_i cs hg
     obtain ⟨h2,ko⟩:=af ko
     simp only [zC] at h2
     have hq:=aU h2.1
     have h3:=Nat.le_of_ble_eq_true h2.2
     have dI:(hp h).ob q=some (.cells cs):=by rw [iV hq];unfold et;rw [hg];rfl
     exact .read _ ko (fun S2 hA=>lY ho hT ⟨_,hz⟩ (fun g w v hI hv=>by
      rw [hx] at hv
      cases hv with
      | ptr _ _ b s bG=>
       have hs:s.1=cs.length:=by
        rcases hI.cells _ _ ((hA q (aB hq (.head _))).1.trans dI) with ⟨k1,_⟩ | ⟨b',CU,k1,_⟩
        ·rw [k1] at bG;cases bG
        rw [k1] at bG
        simp only [zI,zU] at bG
        obtain ⟨_,rfl⟩:=bG
        rfl
       exact ⟨b,off,rfl,.sl q off e.size n b n s bG (Nat.le_refl _) (by unfold maxLen;omega) (by rw [hs];exact h3)⟩)) hd
    ·cases ko
   ·cases ko
  ·cases hr
 ·cases hr
end
end
section
open Go.RowKit
section
variable {P:Program} {E:Env} {o:Oper} {ρ:Operand→A} {h:H} {β:Type} {K:A→H→Fp→Option β} {r:β}
theorem Step.put {h1:H} {X:Ref} {x:Ob} {T1:List Nat} {pv:A} (hd:∀c,o.op≠.defer c) (hX:xP X=true) (k2:uF h h1 X x) (xy:∀(g:G) (S:Hp) (w:World) (a:Act),Inv g S w→(∀x∈o.op.operands,V g (ρ x) (a.eval x))→g.bg X.id≠none)
  (k:∀S2,Agree (.pt (gT X) T1) (hp h) S2→dH P o ρ S2 (S2.set X.id x) pv):Step P o ρ h h1 (.pt (gT X) T1) pv where
 out:=fun i hi=>k2.1 i (by
  have hi:(false || (gT X::T1).any (Nat.beq (res i)))=false:=hi
  rw [List.any_cons,Bool.or_eq_false_iff,Bool.or_eq_false_iff] at hi
  show (false || [gT X].any (Nat.beq (res i)))=false
  rw [List.any_cons,hi.2.1];rfl)
 rd:=fun i hi=>k2.1 i (by simpa [wt,aF,Fp.pt,Fp.wr] using hi)
 ok:=fun S2 hA=>by
  refine dH.GG (dH.bg fun g w a hI hv=>?_) hd
  have RD:aF (.pt (gT X) T1) X.id=true:=bB hX (.head _)
  have Ou:¬(hp h).fr X.id:=fun hf=>xy g S2 w a hI hv (hI.fresh _ ((hA _ RD).2.2 hf))
  rw [k2.2 Ou,fS (fun u hu=>by rcases zF.1 hu with rfl;exact RD) hA]
  exact k S2 hA
theorem V.atw {g:G} {X:Ref} {z:Nat} {v:Value} (hv:V g (.tw X z) v):g.bg X.id≠none:=by cases hv<;>simp_all
theorem V.ats {g:G} {X:Ref} {z off n:Nat} {v:Value} (hv:V g (.ts X z off n) v):g.bg X.id≠none:=by cases hv<;>simp_all
def B2 (E:Env) (T:Nat) (px py:A) (h:H) (K:A→H→Fp→Option β):Option β:=match vn E T with
 | some el=>match bZ E.cS el with
  | some e=>match e.t,px with
   | some t,.tw X z=>bif Nat.blt 0 e.size then uU h t py (fun l T1=>hP h X (fun t' l0=>match eG (.aH t') (.aH t) l0 with
    | some l0=>bif Nat.beq z e.size then gd (bx 0 (len (α:=t.T) l0)) (gd (bw (len l) (len (α:=t.T) l0)) (pb h X t (cat l (dr (α:=t.T) (len l) l0)) (fun h1=>K (.v (.int .i64 (zN (len l)))) h1 (.pt (gT X) T1)))) else none
    | none=>none)) else none
   | _,_=>none
  | none=>none
 | none=>none
theorem B1 (hE:bL P E) {T T':Nat} {x y:Operand} (ho:o.op = .call { callee:=.builtin .copy,args:=#[x,y],argTypes:=#[T,T'] }) (hr:B2 E T (ρ x) (ρ y) h K=some r):Out P o ρ h K r:=by
 have hd:∀c,o.op≠.defer c:=by rw [ho];intro c e;cases e
 unfold B2 at hr
 split at hr
 ·rename_i el he
  split at hr
  ·rename_i e ht
   have hk:=hE.cS _ _ ht
   split at hr
   ·rename_i t X z uM hx
    have l5:=hk.ts t uM
    obtain ⟨h0,hr⟩:=af hr
    have h0:=aU h0
    obtain ⟨l,T1,hr,sc⟩:=rj hr
    obtain ⟨t',l0,hr,hX,dI⟩:=dz hr
    split at hr
    ·rename_i Re hl
     obtain ⟨e',rfl⟩:=bY hl
     cases e'
     obtain ⟨hz,hr⟩:=af hr
     have hz:=beq_eq hz
     obtain ⟨h1,hr⟩:=bp hr
     have h1:0<l0.length:=h1
     obtain ⟨h2,hr⟩:=bp hr
     have h2:l.length≤l0.length:=h2
     obtain ⟨h',k1,k2⟩:=lD hX hr
     refine ⟨_,_,_,k1,.put hd hX k2 (fun g S w a hI hv=>?_) (fun S2 hA=>?_)⟩
     ·have hv:=hv x (by simp [ho,Op.operands,Call.operands])
      rw [hx] at hv
      exact hv.atw
     ·have dc:=(hA _ (bB hX (.head _))).1.trans dI
      have:=As (P:=P) (ρ:=ρ) (n:=l0.length) (m:=l.length) (off:=0) (z:=e.size) ho (mX hE he) hk.ti.size (fun g w v hI hv=>by
       rw [hx,hz,←l5] at hv
       rcases hv.oR hI (by rw [l5];exact h0) dc with ⟨ad,_,rfl,rfl⟩ | ⟨b,s,cap,d,bG,rfl,k2,k3,k4,k5⟩
       ·simp at h1
       ·exact ⟨b,s,cap,d,bG,rfl,fun _=>k2 (by omega)⟩) dc (by rw [bb,l5];omega) (by have:=sc S2 (hA.mono fun i hi=>.tail _ hi);rwa [l5] at this) h2
      have e2:put (l0.flatMap (aA t)) 0 (l.flatMap (aA t))=(cat l (dr (len l) l0)).flatMap (aA t):=by
       rw [g9,sv]
       unfold put
       rw [bb,List.take_zero,List.nil_append,Nat.zero_add];rfl
      rw [e2] at this
      exact this
    ·cases hr
   ·cases hr
  ·cases hr
 ·cases hr
def Jf (E:Env) (T:Nat) (px:A) (h:H) (K:A→H→Fp→Option β):Option β:=match vn E T with
 | some el=>match bZ E.cS el with
  | some e=>match e.t,px with
   | some t,.ts X z off n=>bif Nat.blt 0 e.size then hP h X (fun t' l0=>match eG (.aH t') (.aH t) l0 with
    | some l0=>bif Nat.beq z e.size then gd (bx 0 n) (pb h X t (cat (tk (α:=t.T) off l0) (cat (rep n t.cg) (dr (α:=t.T) (aL off n) l0))) (fun h1=>K .b8 h1 (.wr [gT X]))) else none
    | none=>none) else none
   | _,_=>none
  | none=>none
 | none=>none
theorem EA (hE:bL P E) {T:Nat} {x:Operand} (ho:o.op = .call { callee:=.builtin .clear,args:=#[x],argTypes:=#[T] }) (hr:Jf E T (ρ x) h K=some r):Out P o ρ h K r:=by
 have hd:∀c,o.op≠.defer c:=by rw [ho];intro c e;cases e
 unfold Jf at hr
 split at hr
 ·rename_i el he
  split at hr
  ·rename_i e ht
   have hk:=hE.cS _ _ ht
   split at hr
   ·rename_i t X z off n uM hx
    have l5:=hk.ts t uM
    obtain ⟨h0,hr⟩:=af hr
    have h0:=aU h0
    obtain ⟨t',l0,hr,hX,dI⟩:=dz hr
    split at hr
    ·rename_i Re hl
     obtain ⟨e',rfl⟩:=bY hl
     cases e'
     obtain ⟨hz,hr⟩:=af hr
     have hz:=beq_eq hz
     obtain ⟨h1,hr⟩:=bp hr
     have h1:0<n:=h1
     obtain ⟨h',k1,k2⟩:=lD hX hr
     refine ⟨_,_,_,k1,.put hd hX k2 (fun g S w a hI hv=>?_) (fun S2 hA=>dH.bg fun g0 w0 a0 OM Ir=>?_)⟩
     ·have hv:=hv x (by simp [ho,Op.operands,Call.operands])
      rw [hx] at hv
      exact hv.ats
     ·have dc:=(hA _ (bB hX (.head _))).1.trans dI
      have hle:off+n≤l0.length:=by
       have hv:=Ir x (by simp [ho,Op.operands,Call.operands])
       rw [hx,hz,←l5] at hv
       exact qF OM (by rw [l5];exact h0) dc hv
      have:=xK (P:=P) (ρ:=ρ) (n:=n) (off:=off*e.size) (z:=e.size) ho (mX hE he) hk.ti h0 (hk.tz t uM) (fun g w v hI hv=>by
       rw [hx,hz] at hv
       cases hv with
       | qG _ _ _ _ _ _ hn=>omega
       | ts _ _ _ _ b cap s bG hn _ _ _ d l7=>exact ⟨b,s,cap,d,bG,rfl,fun _=>l7 (by omega)⟩) h1 dc (by rw [bb,l5,←Nat.add_mul];exact zW _ hle)
      have e2:put (l0.flatMap (aA t)) (off*e.size) (nK n (aA t t.cg))=(cat (tk off l0) (cat (rep n t.cg) (dr (aL off n) l0))).flatMap (aA t):=by
       rw [g9,g9,su,sv,tB,l5]
       unfold put
       rw [iM,bH,l5,←Nat.add_mul];rfl
      rw [e2] at this
      exact this
    ·cases hr
   ·cases hr
  ·cases hr
 ·cases hr
def JF (mx:Bool) (px py:A) (h:H) (K:A→H→Fp→Option β):Option β:=match px,py with
 | .v (.int k m),.v (.int k' n)=>if k=k' then K (.v (.int k (bif mx then imax m n else kl m n))) h .no else none
 | _,_=>none
theorem DN {Ts:Array TypeId} {x y:Operand} (ho:o.op = .call { callee:=.builtin .max,args:=#[x,y],argTypes:=Ts }) (hr:JF true (ρ x) (ρ y) h K=some r):Out P o ρ h K r:=by
 unfold JF at hr
 split at hr
 ·rename_i k m k' n hx hy
  split at hr
  ·rename_i hk;subst hk
   exact .pure hr (fun S2=>Dw ho hx hy) (by rw [ho];intro c e;cases e)
  ·cases hr
 ·cases hr
theorem DM {Ts:Array TypeId} {x y:Operand} (ho:o.op = .call { callee:=.builtin .min,args:=#[x,y],argTypes:=Ts }) (hr:JF false (ρ x) (ρ y) h K=some r):Out P o ρ h K r:=by
 unfold JF at hr
 split at hr
 ·rename_i k m k' n hx hy
  split at hr
  ·rename_i hk;subst hk
   exact .pure hr (fun S2=>Dv ho hx hy) (by rw [ho];intro c e;cases e)
  ·cases hr
 ·cases hr
def N6 (f:FuncId) (fi ca:List A) (h:H) (K:A→H→Fp→Option β):Option β:=K (.fn f fi ca) h .no
theorem DP {f:FuncId} {fi ca:Array Operand} (ho:o.op = .makeFunc (.func f) fi ca) (hr:N6 f (fi.toList.map ρ) (ca.toList.map ρ) h K=some r):Out P o ρ h K r:=
 .pure hr (fun S2=>rJ ho) (by rw [ho];intro c e;cases e)
end
end
section
open Go.RowKit
section
variable {P:Program} {E:Env} {o:Oper} {ρ:Operand→A} {S:Hp}
def xV (es:List (A×A)) (n:Nat) (v:A):List (A×A):=es.modify n fun e=>(e.1,v)
theorem Ar (hE:bL P E) {T K T2:Nat} {X:Ref} {x y z:Operand} {e:cm} {es:List (A×A)} {vz:A} {n:Nat} {old:A} (ho:o.op = .mapUpdate T x y z) (hT:P.underlying T=some (.map K T2)) (he:bZ E.cS K=some e) (ht:kI E e.d=true) {b:Bool} (hs:g7 E K e.d (ρ y) (ρ y)=some b)
  (hx:ρ x = .mp X) (hm:S.ob X.id=some (.cl (.map es))) (JH:∀g v,V g (ρ z) v→V g vz v) (hr:j5 (g7 E K e.d (ρ y)) es 0=some (some (n,old)))
  (T_:∀g v q v',es[n]?=some q→V g (ρ y) v→V g q.1 v'→v'=v∧Instr.sameBits 10000 v v=true):dH P o ρ S (S.set X.id (.cl (.map (xV es n vz)))) .b8:=by
 intro g w a next Q hI hv K'
 have e1:=hx▸hv x (by simp [ho,Op.operands])
 have e2:=hv y (by simp [ho,Op.operands])
 have e3:=hv z (by simp [ho,Op.operands])
 obtain ⟨yT,s,ia,clock,h1,h2,h3,h4⟩:=e1.rQ hI hm
 have hc:=lK hE w false he ht hs e2
 rcases h4.find (w:=w) hE he e2 hr with ⟨hh,_⟩ | ⟨n',p,x',hh,og,_,hn,hf⟩
 ·cases hh
 cases hh
 obtain ⟨q,hq⟩:∃q,es[n]?=some q:=⟨_,zD hn⟩
 obtain ⟨k1,k2⟩:=T_ g _ q _ hq e2 (h4.2 n x' q og hq).1
 have Bt:qb g (ia.modify n fun e=>{ e with key:=a.eval y,val:=a.eval z }) (xV es n vz):=by
  refine ⟨by simp [xV,h4.1],fun m c r hy hz=>?_⟩
  unfold xV at hz
  rw [List.getElem?_modify] at hz
  rw [Array.getElem?_modify] at hy
  by_cases ZH:n=m
  ·subst ZH
   simp only [if_true,og,hq,Option.map_some,Option.map_eq_map,zI] at hy hz
   subst hy hz
   exact ⟨by rw [←k1];exact (h4.2 n x' q og hq).1,JH _ _ e3⟩
  ·simp only [if_neg ZH,Option.map_eq_map,Option.map_id'] at hy hz
   exact h4.2 m c r hy hz
 obtain ⟨q1,q2⟩:=hI.rp (ll:=clock) hm h2 h3 Bt
 have wQ:(Instr.keyThatStays (((ia[n]?).map (·.key)).getD (a.eval y)) (a.eval y)).run P w = .ok (a.eval y) w:=by
  rw [og]
  simp only [Option.map_some,Option.getD_some,k1]
  simp [Instr.keyThatStays,k2]
 have dA:(Instr.mapUpdate T (.map (some yT)) (a.eval y) (a.eval z)).run P w = .ok () { w with heap:=w.heap.setIfInBounds yT (.map (ia.modify n fun e=>{ e with key:=a.eval y,val:=a.eval z }) clock) }:=by
  simp only [Instr.mapUpdate,Sem.run_bind,run_underlying hT,Result.andThen_ok,MapKept.run_getObj_map h3,hc,hf,wQ,MapKept.run_setObj_map _ h3]
 unfold Oper.wp
 simp only [execOp,ho,h1,Sem.run_bind,dA,Result.andThen_ok,Sem.run_pure]
 exact K' _ g _ (.b8 _) q1 q2
end
def qZ {β:Type} (f:A→Option Bool):List (A×A)→Nat→(Option (Nat×A)→Option β)→Option β
 | [],_,K=>K none
 | (k,v)::r,i,K=>match f k with
  | some b=>br b (K (some (i,v))) (qZ f r (i+1) K)
  | none=>none
theorem nb {β:Type} {f:A→Option Bool} {r:β}:∀(es:List (A×A)) (i:Nat) (K:Option (Nat×A)→Option β),qZ f es i K=some r→∃x,K x=some r∧j5 f es i=some x
 | [],i,K,h=>⟨none,h,rfl⟩
 | (k,v)::es,i,K,h=>by
  unfold qZ at h
  split at h
  ·rename_i b hb
   rcases nZ h with ⟨rfl,h1⟩ | ⟨rfl,h1⟩
   ·exact ⟨_,h1,by unfold j5;rw [hb]⟩
   ·obtain ⟨x,k1,k2⟩:=nb es (i+1) K h1
    exact ⟨x,k1,by unfold j5;rw [hb];exact k2⟩
  ·cases h
def q0:(t:Ty)→t.T→t.T→Bool
 | .int _,x,y=>aj x y
 | .pair a b,x,y=>q0 a x.1 y.1 && q0 b x.2 y.2
 | _,_,_=>false
def CC {κ α:Type} (p:κ→Bool):List (κ×α)→Nat→Option (Nat×α)
 | [],_=>none
 | (k,v)::r,i=>bif p k then some (i,v) else CC p r (i+1)
def H_ {κ α:Type} (l:List (κ×α)) (n:Nat) (v:α):List (κ×α):=l.modify n fun e=>(e.1,v)
def Ib {κ α:Type} (l:List (κ×α)) (n:Nat):List (κ×α):=l.eraseIdx n
def la (E:Env) (T:Nat) (k:IntKind):Bool:=match bZ E.cS T with
 | some ⟨.int k',1,_,_,_,_,_⟩=>if k'=k then true else false
 | _=>false
def bR (E:Env):List Field→Nat→Ty→Bool
 | [fd],i,.int k=>Nat.beq fd.offset i && la E fd.type k
 | fd::fs,i,.pair (.int k) t=>Nat.beq fd.offset i && la E fd.type k && bR E fs (i+1) t
 | _,_,_=>false
def AU (E:Env) (K:Nat) (e:cm) (ka:Bool) (t:Ty):Bool:=match e.d with
 | .int k=>!ka && (match t with
  | .int k'=>if k'=k then true else false
  | _=>false)
 | .struct fs=>ka && E.eqs.any (Nat.beq K) && bR E fs.toList 0 t
 | _=>false
theorem nP {E:Env} {T:Nat} {k:IntKind} (h:la E T k=true):∃e,bZ E.cS T=some e∧e.d = .int k∧e.size=1:=by
 unfold la at h
 split at h
 ·rename_i k' _ _ _ _ _ ht
  split at h
  ·rename_i hk;subst hk;exact ⟨_,ht,rfl,rfl⟩
  ·cases h
 ·cases h
theorem wZ {E:Env} {T:Nat} {k:IntKind} {m n:Int} (h:la E T k=true) (f:Nat):s_ E (f+1) T [.v (.int k m)] [.v (.int k n)]=some (aj m n):=by
 obtain ⟨e,h1,h2,_⟩:=nP h
 unfold s_
 rw [h1]
 simp only [h2,if_true]
theorem wE {E:Env} (f:Nat):∀(fs:List Field) (i:Nat) (t:Ty),bR E fs i t=true→∀(p q:List A) (x y:t.T),p.length=i→q.length=i→Es E (s_ E (f+1)) fs (p++aA t x) (q++aA t y)=some (q0 t x y)
 | [],_,_,h=>by simp [bR] at h
 | [fd],i,.int k,h=>fun p q x y hp hq=>by
  simp only [bR,zC] at h
  have h1:=beq_eq h.1
  obtain ⟨e,e1,e2,e3⟩:=nP h.2
  unfold Es
  rw [e1]
  simp only [e3,h1]
  rw [←hp,List.drop_left,hp,←hq,List.drop_left]
  have:=wZ (m:=x) (n:=y) h.2 f
  simp only [aA,List.take_succ_cons,List.take_zero,this,Es]
  simp [q0,iw]
 | fd::fs,i,.pair (.int k) t,h=>fun p q x y hp hq=>by
  have h:(Nat.beq fd.offset i && la E fd.type k && bR E fs (i+1) t)=true:=by
   cases fs<;>exact h
  simp only [zC] at h
  have h1:=beq_eq h.1.1
  obtain ⟨e,e1,e2,e3⟩:=nP h.1.2
  unfold Es
  rw [e1]
  simp only [e3,h1]
  have ih:=wE f fs (i+1) t h.2 (p++[A.v (.int k x.1)]) (q++[A.v (.int k y.1)]) x.2 y.2 (by simp [hp]) (by simp [hq])
  have ex:∀(p:List A) (x:(Ty.pair (.int k) t).T),p++aA (.pair (.int k) t) x=p++[A.v (.int k x.1)]++aA t x.2:=fun p x=>by
   show p++([A.v (.int k x.1)]++aA t x.2)=_
   rw [List.append_assoc]
  rw [ex,ex,ih]
  have Um:((p++[A.v (.int k x.1)]++aA t x.2).drop i).take 1=[A.v (.int k x.1)]:=by rw [←hp,List.append_assoc,List.drop_left];rfl
  have hd2:((q++[A.v (.int k y.1)]++aA t y.2).drop i).take 1=[A.v (.int k y.1)]:=by rw [←hq,List.append_assoc,List.drop_left];rfl
  rw [Um,hd2]
  exact congrArg (fun z:Option Bool=>match z,some (q0 t x.2 y.2) with
   | some a,some b=>some (iw a b)
   | _,_=>none) (wZ (m:=x.1) (n:=y.1) h.1.2 f)
 | [_],_,.bool,h=>by simp [bR] at h
 | _::_::_,_,.bool,h=>by simp [bR] at h
 | _::_::_,_,.int _,h=>by simp [bR] at h
 | _::_,_,.unit,h=>by simp [bR] at h
 | _::_,_,.pair .bool _,h=>by simp [bR] at h
 | _::_,_,.pair .unit _,h=>by simp [bR] at h
 | _::_,_,.pair (.pair _ _) _,h=>by simp [bR] at h
 | _::_,_,.pair (.arr _ _) _,h=>by simp [bR] at h
 | _::_,_,.pair (.aH _) _,h=>by simp [bR] at h
 | _::_,_,.pair (.ptr _) _,h=>by simp [bR] at h
 | _::_,_,.pair (.cC _) _,h=>by simp [bR] at h
 | _::_,_,.pair (.iL _ _) _,h=>by simp [bR] at h
 | _::_,_,.pair (.nu _ _) _,h=>by simp [bR] at h
 | _::_,_,.pair (.mp _) _,h=>by simp [bR] at h
 | _::_,_,.arr _ _,h=>by simp [bR] at h
 | _::_,_,.aH _,h=>by simp [bR] at h
 | _::_,_,.ptr _,h=>by simp [bR] at h
 | _::_,_,.cC _,h=>by simp [bR] at h
 | _::_,_,.iL _ _,h=>by simp [bR] at h
 | _::_,_,.nu _ _,h=>by simp [bR] at h
 | _::_,_,.mp _,h=>by simp [bR] at h
theorem rU {E:Env} {K:Nat} {e:cm} {ka:Bool} {t:Ty} (he:bZ E.cS K=some e) (h:AU E K e ka t=true) (x y:t.T):g7 E K e.d (bM ka t x) (bM ka t y)=some (q0 t x y):=by
 unfold AU at h
 split at h
 ·rename_i k hd
  cases ka with
  | true=>simp at h
  | false=>
   simp only [Bool.not_false,Bool.true_and] at h
   split at h
   ·split at h
    ·rename_i k' hk
     subst hk
     unfold g7 bM
     simp only [hd,cond_false,aA,if_true]
     rfl
    ·cases h
   ·cases h
 ·rename_i fs hd
  simp only [zC] at h
  obtain ⟨⟨rfl,hq⟩,hs⟩:=h
  have h1:=wE 0 fs.toList 0 t hs [] [] x y rfl rfl
  simp only [List.nil_append] at h1
  unfold g7 bM
  simp only [hd,cond_true,gH,Bool.and_self,A.cells]
  show s_ E 2 K (aA t x) (aA t y)=some (q0 t x y)
  unfold s_
  rw [he]
  simp only [hd,hq,cond_true]
  exact h1
 ·cases h
theorem jB {E:Env} {K:Nat} {e:cm} {ka va:Bool} {t tv:Ty} (he:bZ E.cS K=some e) (h:AU E K e ka t=true) (x:t.T):∀(es:List (t.T×tv.T)) (i:Nat),
  j5 (g7 E K e.d (bM ka t x)) (es.map fun e=>(bM ka t e.1,bM va tv e.2)) i=some ((CC (q0 t x) es i).map fun p=>(p.1,bM va tv p.2))
 | [],i=>rfl
 | (k,v)::es,i=>by
  rw [List.map_cons]
  unfold j5 CC
  simp only [rU he h x k]
  cases q0 t x k with
  | true=>rfl
  | false=>exact jB he h x es (i+1)
theorem sa {a b:Int} (h:aj a b=true):a=b:=by unfold aj at h;exact of_decide_eq_true h
theorem qU {E:Env}:∀(fs:List Field) (i:Nat) (t:Ty),bR E fs i t=true→∀x y:t.T,q0 t x y=true→x=y
 | [],_,_,h=>by simp [bR] at h
 | [_],_,.int _,_=>fun _ _ e=>sa e
 | fd::fs,i,.pair (.int k) t,h=>fun x y e=>by
  have h:(Nat.beq fd.offset i && la E fd.type k && bR E fs (i+1) t)=true:=by
   cases fs<;>exact h
  simp only [zC] at h
  have e:(aj x.1 y.1 && q0 t x.2 y.2)=true:=e
  simp only [zC] at e
  exact Prod.ext (sa e.1) (qU fs (i+1) t h.2 _ _ e.2)
 | [_],_,.bool,h=>by simp [bR] at h
 | _::_::_,_,.bool,h=>by simp [bR] at h
 | _::_::_,_,.int _,h=>by simp [bR] at h
 | _::_,_,.unit,h=>by simp [bR] at h
 | _::_,_,.pair .bool _,h=>by simp [bR] at h
 | _::_,_,.pair .unit _,h=>by simp [bR] at h
 | _::_,_,.pair (.pair _ _) _,h=>by simp [bR] at h
 | _::_,_,.pair (.arr _ _) _,h=>by simp [bR] at h
 | _::_,_,.pair (.aH _) _,h=>by simp [bR] at h
 | _::_,_,.pair (.ptr _) _,h=>by simp [bR] at h
 | _::_,_,.pair (.cC _) _,h=>by simp [bR] at h
 | _::_,_,.pair (.iL _ _) _,h=>by simp [bR] at h
 | _::_,_,.pair (.nu _ _) _,h=>by simp [bR] at h
 | _::_,_,.pair (.mp _) _,h=>by simp [bR] at h
 | _::_,_,.arr _ _,h=>by simp [bR] at h
 | _::_,_,.aH _,h=>by simp [bR] at h
 | _::_,_,.ptr _,h=>by simp [bR] at h
 | _::_,_,.cC _,h=>by simp [bR] at h
 | _::_,_,.iL _ _,h=>by simp [bR] at h
 | _::_,_,.nu _ _,h=>by simp [bR] at h
 | _::_,_,.mp _,h=>by simp [bR] at h
theorem uZ (n:Nat) (k:IntKind) (m:Int):Instr.sameBits n (.int k m) (.int k m)=true:=by cases n<;>simp [Instr.sameBits]
theorem qV {E:Env}:∀(fs:List Field) (i:Nat) (t:Ty),bR E fs i t=true→∀(x:t.T) (g:G) (vs:List Value),Vs g (aA t x) vs→(∀g' CT,Vs g' (aA t x) CT→CT=vs)∧∀n,((vs.zip vs).all fun (a,b)=>Instr.sameBits n a b)=true
 | [],_,_,h=>by simp [bR] at h
 | [_],_,.int k,_=>fun x g vs hv=>by
  obtain ⟨v,rfl,h1,_⟩:=Vs.lQ (show Vs g [.v (.int k x)] vs from hv)
  cases h1
  refine ⟨fun g' CT uL=>?_,fun n=>?_⟩
  ·obtain ⟨v',rfl,Ux,_⟩:=Vs.lQ (show Vs g' [.v (.int k x)] CT from uL)
   cases Ux;rfl
  ·exact (Bool.and_true _).trans (uZ n k x)
 | fd::fs,i,.pair (.int k) t,h=>fun x g vs hv=>by
  have h:(Nat.beq fd.offset i && la E fd.type k && bR E fs (i+1) t)=true:=by
   cases fs<;>exact h
  simp only [zC] at h
  obtain ⟨v1,v2⟩:=Vs.split (show Vs g (aA (.int k) x.1++aA t x.2) vs from hv)
  obtain ⟨r1,r2⟩:=qV fs (i+1) t h.2 x.2 g _ v2
  obtain ⟨v,e1,h1,_⟩:=Vs.lQ (show Vs g [.v (.int k x.1)] _ from v1)
  cases h1
  have yN:vs=Value.int k x.1::vs.drop (aA (.int k) x.1).length:=by
   have:=zP (aA (.int k) x.1).length vs
   rw [e1] at this
   exact this.symm
  refine ⟨fun g' CT uL=>?_,fun n=>?_⟩
  ·obtain ⟨Z6,Z5⟩:=Vs.split (show Vs g' (aA (.int k) x.1++aA t x.2) CT from uL)
   obtain ⟨v',e1',Ux,_⟩:=Vs.lQ (show Vs g' [.v (.int k x.1)] _ from Z6)
   cases Ux
   have TD:CT=Value.int k x.1::CT.drop (aA (.int k) x.1).length:=by
    have:=zP (aA (.int k) x.1).length CT
    rw [e1'] at this
    exact this.symm
   rw [TD,yN,r1 _ _ Z5]
  ·rw [yN,List.zip_cons_cons,List.all_cons,r2 n]
   exact (Bool.and_true _).trans (uZ n k x.1)
 | [_],_,.bool,h=>by simp [bR] at h
 | _::_::_,_,.bool,h=>by simp [bR] at h
 | _::_::_,_,.int _,h=>by simp [bR] at h
 | _::_,_,.unit,h=>by simp [bR] at h
 | _::_,_,.pair .bool _,h=>by simp [bR] at h
 | _::_,_,.pair .unit _,h=>by simp [bR] at h
 | _::_,_,.pair (.pair _ _) _,h=>by simp [bR] at h
 | _::_,_,.pair (.arr _ _) _,h=>by simp [bR] at h
 | _::_,_,.pair (.aH _) _,h=>by simp [bR] at h
 | _::_,_,.pair (.ptr _) _,h=>by simp [bR] at h
 | _::_,_,.pair (.cC _) _,h=>by simp [bR] at h
 | _::_,_,.pair (.iL _ _) _,h=>by simp [bR] at h
 | _::_,_,.pair (.nu _ _) _,h=>by simp [bR] at h
 | _::_,_,.pair (.mp _) _,h=>by simp [bR] at h
 | _::_,_,.arr _ _,h=>by simp [bR] at h
 | _::_,_,.aH _,h=>by simp [bR] at h
 | _::_,_,.ptr _,h=>by simp [bR] at h
 | _::_,_,.cC _,h=>by simp [bR] at h
 | _::_,_,.iL _ _,h=>by simp [bR] at h
 | _::_,_,.nu _ _,h=>by simp [bR] at h
 | _::_,_,.mp _,h=>by simp [bR] at h
theorem AT {E:Env} {K:Nat} {e:cm} {ka:Bool} {t:Ty} (h:AU E K e ka t=true) {x y:t.T} (ZA:q0 t x y=true) {g:G} {v v':Value} (h1:V g (bM ka t x) v) (h2:V g (bM ka t y) v'):v'=v∧Instr.sameBits 10000 v v=true:=by
 unfold AU at h
 split at h
 ·rename_i k hd
  cases ka with
  | true=>simp at h
  | false=>
   simp only [Bool.not_false,Bool.true_and] at h
   split at h
   ·split at h
    ·have:=sa ZA
     subst this
     cases h1;cases h2
     exact ⟨rfl,uZ _ _ _⟩
    ·cases h
   ·cases h
 ·rename_i fs hd
  simp only [zC] at h
  obtain ⟨⟨rfl,hq⟩,hs⟩:=h
  have:=qU _ _ _ hs _ _ ZA
  subst this
  have c1:=h1.cells rfl
  have c2:=h2.cells rfl
  obtain ⟨us,rfl⟩:=h1.uC rfl
  obtain ⟨Z7,rfl⟩:=h2.uC rfl
  obtain ⟨r1,r2⟩:=qV _ _ _ hs x g _ c1
  have e:=r1 _ _ c2
  have e:Z7=us:=Array.ext' e
  subst e
  refine ⟨rfl,?_⟩
  have:=r2 9999
  simp only [Value.cells] at this
  rw [show (10000:Nat)=9999+1 from rfl,Instr.sameBits]
  simp only [this,Bool.and_true,beq_self_eq_true]
 ·cases h
end
section
variable {α β σ ρ:Type}
theorem lq {x:Option α} {f:α→Option β} {a:α} (h:x=some a):bd x f=f a:=by rw [h];rfl
theorem GF {x:Option α} {n:Option β} {s:α→Option β} {a:α} (h:x=some a):opt x n s=s a:=by rw [h];rfl
theorem GD {x:Option α} {n:Option β} {s:α→Option β} (h:x=none):opt x n s=n:=by rw [h];rfl
theorem QL {b:Bool} {x y:Option α} (h:b=true):br b x y=x:=by rw [h];rfl
theorem EE {b:Bool} {x y:Option α} (h:b=false):br b x y=y:=by rw [h];rfl
theorem nV {p:Prop} {inst:Decidable p} {x:Option α} (h:p):@gd α p inst x=x:=if_pos h
theorem fJ {a b:Int} {x y:Option α} (h:a<b):br (ba a b) x y=x:=by unfold ba;rw [decide_eq_true h];rfl
theorem eX {a b:Int} {x y:Option α} (h:¬a<b):br (ba a b) x y=y:=by unfold ba;rw [decide_eq_false h];rfl
theorem fK {a b:Int} {x y:Option α} (h:a≤b):br (b9 a b) x y=x:=by unfold b9;rw [decide_eq_true h];rfl
theorem fL {a b:Int} {x y:Option α} (h:¬a≤b):br (b9 a b) x y=y:=by unfold b9;rw [decide_eq_false h];rfl
theorem bC {a b:Int} {x y:Option α} (h:a=b):br (aj a b) x y=x:=by unfold aj;rw [decide_eq_true h];rfl
theorem bD {a b:Int} {x y:Option α} (h:¬a=b):br (aj a b) x y=y:=by unfold aj;rw [decide_eq_false h];rfl
theorem jd {a:Int} {x:Option α}:gd (bq a) x=br (b9 0 a) x none:=by unfold b9;by_cases h:0≤a<;>simp [gd,bq,h,br]
theorem iZ {a b:Nat} {x:Option α}:gd (bx a b) x=br (ba a b) x none:=by unfold ba;by_cases h:a<b<;>simp [gd,bx,h,br]
theorem i_ {a b:Nat} {x:Option α}:gd (bw a b) x=br (b9 a b) x none:=by unfold b9;by_cases h:a≤b<;>simp [gd,bw,h,br]
theorem ja {a b:Nat} {x:Option α}:gd (neq a b) x=br (aj a b) x none:=by
 unfold aj
 by_cases h:a=b
 ·simp [gd,neq,h,br]
 ·have h2:¬(a:Int)=b:=by omega
  simp [gd,neq,h,h2,br]
theorem je {a b:Int} {x:Option α}:gd (D0 a b) x=br (aj a b) x none:=by unfold aj;by_cases h:a=b<;>simp [gd,D0,h,br]
theorem jb {a:Int} {x:Option α}:gd (Io a) x=br (aj a 0) none x:=by unfold aj;by_cases h:a=0<;>simp [gd,Io,h,br]
theorem ep {b:Bool} {x y:Option α}:br (ax b) x y=br b y x:=by cases b<;>rfl
theorem Jl {a b:Bool} {x y:Option α}:br (iw a b) x y=br a (br b x y) y:=by cases a<;>cases b<;>rfl
theorem wrap_i64 (n:Int):IntKind.i64.wrap n=(n+9223372036854775808)%18446744073709551616-9223372036854775808:=by
 simp [IntKind.wrap,IntKind.bits,IntKind.signed]
 split<;>omega
theorem wrap_u64 (n:Int):IntKind.u64.wrap n=n%18446744073709551616:=by simp [IntKind.wrap,IntKind.bits,IntKind.signed]
theorem bE {a b:Int} (h : -9223372036854775808≤a+b∧a+b≤9223372036854775807):ae .i64 a b=a+b:=by unfold ae;rw [wrap_i64];omega
theorem eg {a b:Int} (h : -9223372036854775808≤a-b∧a-b≤9223372036854775807):aI .i64 a b=a-b:=by unfold aI;rw [wrap_i64];omega
theorem eO {a b:Int} (h : -9223372036854775808≤a*b∧a*b≤9223372036854775807):cZ .i64 a b=a*b:=by unfold cZ;rw [wrap_i64];omega
theorem gC {a:Int} (h : -9223372036854775808≤a∧a≤9223372036854775807):cN .i64 a=a:=by unfold cN;rw [wrap_i64];omega
theorem ic {a:Int} (h:0≤a∧a≤18446744073709551615):cN .u64 a=a:=by unfold cN;rw [wrap_u64];omega
theorem eN {a b:Int} (h:0≤a):gM a b=a%b:=Int.tmod_eq_emod_of_nonneg h
theorem Hv {a b:Int} (h:0≤a):a.tdiv b=a / b:=Int.tdiv_eq_ediv_of_nonneg h
theorem fE {a b:Int} (h:0≤a∧a≤9223372036854775807∧0<b):x8 .i64 a b=a / b:=by
 unfold x8
 rw [Hv h.1,wrap_i64]
 have h1:0≤a / b:=Int.ediv_nonneg h.1 (by omega)
 have h2:a / b≤a:=Int.ediv_le_self b h.1
 omega
theorem lS (n:Nat):nN (n:Int)=n:=zE n
theorem jM (n:Nat):zN n=(n:Int):=rfl
theorem h_ (a:Int):nN a=a.toNat:=rfl
theorem dt (a:Int):bq a=(0≤a):=rfl
theorem ey (a b:Nat):bx a b=(a<b):=rfl
theorem gx (a b:Nat):bw a b=(a≤b):=rfl
theorem fh {d:α} {l:List α} {i:Nat} (h:i<l.length):nth d l i=l[i]:=by unfold nth;rw [zA,zD h];rfl
theorem cO {d x:α} {l:List α} {i:Nat} (h:l[i]?=some x):nth d l i=x:=by unfold nth;rw [zA,h];rfl
theorem GA {l:List (Option (List α))} {j:Nat} {r:List α}:aY l j=some r↔l[j]?=some (some r):=by
 unfold aY
 rw [zA]
 cases h:l[j]? with
 | none=>simp
 | some x=>simp
theorem u7 {l:List (Option (List α))} {j:Nat} {r:List α} (h:aY l j=some r):j<l.length:=(zB.1 (GA.1 h)).1
theorem C2 {l:List (Option (List α))} {i j:Nat} {x:Option (List α)} (h:i<l.length):aY (aZ l i x) j=if i=j then x else aY l j:=by
 unfold aY aZ
 rw [zA,zA,List.getElem?_set]
 by_cases e:i=j
 ·subst e;simp [h]
 ·simp [e]
theorem db {l:List (Option (List α))} {j:Nat} {r:List α} {x:Option (List α)} (h:aY l j=some r):aY (aZ l j x) j=x:=by rw [C2 (u7 h),if_pos rfl]
theorem C3 {l:List (Option (List α))} {j:Nat} {x:Option (List α)}:aY (cat l [x]) j=if j=l.length then x else aY l j:=by
 unfold aY cat
 rw [zA,zA]
 by_cases e:j=l.length
 ·subst e;simp
 ·rw [if_neg e]
  by_cases h1:j<l.length
  ·rw [zK h1]
  ·rw [zb (by simp;omega),zb (by omega)]
theorem DE {d x:α} {l:List α} {j:Nat}:nth d (cat l [x]) j=if j=l.length then x else nth d l j:=by
 unfold nth cat
 rw [zA,zA]
 by_cases e:j=l.length
 ·subst e;simp
 ·rw [if_neg e]
  by_cases h1:j<l.length
  ·rw [zK h1]
  ·rw [zb (by simp;omega),zb (by omega)]
theorem jN {l:List (Option (List α))} {x:Option (List α)}:aY (cat l [x]) l.length=x:=by rw [C3,if_pos rfl]
theorem AD {d x:α} {l:List α}:nth d (cat l [x]) l.length=x:=by rw [DE,if_pos rfl]
theorem nE {n:Nat} {l:List α}:(tk n l).length=min n l.length:=List.length_take
theorem nW {n:Nat} {l:List α}:(dr n l).length=l.length-n:=List.length_drop
theorem lC {n:Nat} {x:α}:(rep n x).length=n:=List.length_replicate
theorem iI {d:α} {l:List α} {n:Nat} {x:α}:(aZ l n x).length=l.length:=zM
theorem xZ {l k:List α}:(cat l k).length=l.length+k.length:=zY
theorem bF (l:List α):len l=l.length:=rfl
def EU (f:(σ→Option α)→σ→Option α) (s:σ) (x:Option α) (k:Nat):Prop:=∀n,k<n→iter f n s=x
theorem EU.stop {f:(σ→Option α)→σ→Option α} {s:σ} {x:Option α} (k:Nat) (h:∀g,f g s=x):EU f s x k:=fun n hn=>by
 cases n with
 | zero=>omega
 | succ n=>exact h _
theorem EU.step {f:(σ→Option α)→σ→Option α} {s s':σ} {x:Option α} {k:Nat} (h:EU f s' x k) (e:∀g:σ→Option α,f g s=g s'):EU f s x (k+1):=fun n hn=>by
 cases n with
 | zero=>omega
 | succ n=>exact (e _).trans (h n (by omega))
theorem EU.loop {f:(σ→Option α)→σ→Option α} {s:σ} {x:Option α} {k:Nat} (h:EU f s x k) (hk:k<nh):Go.Bm.loop f s=x:=by rw [rT];exact h nh hk
theorem rS {f:(σ→Option α)→σ→Option α} (mk:Nat→σ) (res:Nat→Option α) (N:Nat) (hN:N<nh) (he:∀g,f g (mk N)=res N) (h:∀k,k<N→(∀g,f g (mk k)=res k)∨(res k=res (k+1)∧∀g,f g (mk k)=g (mk (k+1)))):Go.Bm.loop f (mk 0)=res 0:=by
  have key:∀m k:Nat,k+m=N→EU f (mk k) (res k) m:=by
    intro m
    induction m with
    | zero=>
              intro k hk;obtain rfl:k=N:=by omega
              exact .stop 0 he
    | succ m ih=>
      intro k hk
      rcases h k (by omega) with h1 | ⟨h1,h2⟩
      · exact .stop _ h1
      · rw [h1];exact .step (ih (k+1) (by omega)) (fun g=>h2 g)
  exact (key N 0 (by omega)).loop hN
end
theorem bits_mask (a:Int) (j:Nat) (hj:j<63):bits .and .i64 a (2^j-1)=a%2^j:=by
 have h1:(BitVec.ofInt 64 (2^j-1)).toNat=2^j-1:=by
  rw [BitVec.toNat_ofInt]
  have h2:(2:Int)^j<2^64:=by
   have:(2:Nat)^j<2^64:=Nat.pow_lt_pow_right (by omega) (by omega)
   exact_mod_cast this
  have h3:(0:Int)<2^j:=by
   have:0<(2:Nat)^j:=Nat.pow_pos (by omega)
   exact_mod_cast this
  rw [Int.emod_eq_of_lt (by omega) (by simpa using (by omega:(2:Int)^j-1<2^64))]
  have:((2:Int)^j-1)=(((2:Nat)^j-1:Nat):Int):=by
   have:0<(2:Nat)^j:=Nat.pow_pos (by omega)
   rw [Int.natCast_sub (by omega)];simp
  rw [this];simp
 have h4:((BitVec.ofInt 64 a).toNat &&& (2^j-1))=(BitVec.ofInt 64 a).toNat%2^j:=Nat.and_two_pow_sub_one_eq_mod _ _
 have h5:(((BitVec.ofInt 64 a).toNat%2^j:Nat):Int)=a%2^j:=by
  rw [BitVec.toNat_ofInt]
  have hd:(2:Int)^j ∣ 2^64:=⟨2^(64-j),by rw [←Int.pow_add];congr 1;omega⟩
  rw [Int.natCast_emod,Int.toNat_of_nonneg (Int.emod_nonneg _ (by decide))]
  have:=Int.emod_emod_of_dvd a hd
  simpa using this
 have h6:0≤a%2^j:=Int.emod_nonneg _ (by
  have:0<(2:Nat)^j:=Nat.pow_pos (by omega)
  have:(0:Int)<2^j:=by exact_mod_cast this
  omega)
 have h7:a%2^j<9223372036854775808:=by
  have hp:(0:Int)<2^j:=by
   have:0<(2:Nat)^j:=Nat.pow_pos (by omega)
   exact_mod_cast this
  have h8:=Int.emod_lt_of_pos a hp
  have h9:(2:Int)^j≤2^63:=by
   have:(2:Nat)^j≤2^63:=Nat.pow_le_pow_right (by omega) (by omega)
   exact_mod_cast this
  omega
 have h10:(BitVec.ofInt 64 a &&& BitVec.ofInt 64 (2^j-1)).toNat=(BitVec.ofInt 64 a).toNat%2^j:=by rw [BitVec.toNat_and,h1,h4]
 show IntKind.i64.wrap ((BitVec.ofInt 64 a &&& BitVec.ofInt 64 (2^j-1)).toNat:Int)=_
 rw [h10,h5]
 exact (by rw [wrap_i64];omega)
theorem qS {n:Nat} {a:Int} (h0:0≤a) (h1:a<2^n):(BitVec.ofInt n a).toNat=a.toNat:=by
 rw [BitVec.toNat_ofInt,Int.emod_eq_of_lt h0 (by exact_mod_cast h1)]
theorem uA {a b:Int} (ha:0≤a∧a<9223372036854775808) (hb:0≤b∧b<9223372036854775808):bits .or .i64 a b=((a.toNat ||| b.toNat:Nat):Int):=by
 show IntKind.i64.wrap ((BitVec.ofInt 64 a ||| BitVec.ofInt 64 b).toNat:Int)=_
 rw [BitVec.toNat_or,qS ha.1 (by omega),qS hb.1 (by omega)]
 have:a.toNat ||| b.toNat<2^63:=Nat.or_lt_two_pow (by omega) (by omega)
 exact (by rw [wrap_i64];omega)
theorem EM {a m:Int} (j:Nat) (hj:j<63) (hm:m=2^j-1):bits .and .i64 a m=a%2^j:=by rw [hm,bits_mask a j hj]
theorem wq {a b:Int} (ha:0≤a∧a<9223372036854775808) (hb:0≤b∧b<9223372036854775808):gM (bits .or .i64 a b) 8=0↔a%8=0∧b%8=0:=by
 rw [uA ha hb,eN (by omega)]
 obtain ⟨x,rfl⟩:=Int.eq_ofNat_of_zero_le ha.1
 obtain ⟨y,rfl⟩:=Int.eq_ofNat_of_zero_le hb.1
 have h:(x ||| y)%8=(x%8) ||| (y%8):=by
  have:=Nat.or_mod_two_pow (a:=x) (b:=y) (n:=3)
  simpa using this
 have h2:(x ||| y)%8=0↔x%8=0∧y%8=0:=by rw [h];exact Nat.or_eq_zero_iff
 simp only [zE]
 omega
theorem zk : ∀ k : Fin 64, 3 ≤ k.val → (7#64)[k.val]'k.isLt = false := by decide
theorem EN {a:Int} (ha:0≤a∧a<9223372036854775808):bits .andNot .i64 a 7=a-a%8:=by
 obtain ⟨x,rfl⟩:=Int.eq_ofNat_of_zero_le ha.1
 have h1:(BitVec.ofInt 64 (x:Int) &&& ~~~ BitVec.ofInt 64 7).toNat=x-x%8:=by
  have hx:x<2^64:=by omega
  have e:BitVec.ofInt 64 (x:Int) &&& ~~~ BitVec.ofInt 64 7=(BitVec.ofNat 64 x >>> 3) <<< 3:=by
   rw [BitVec.ofInt_natCast]
   ext i hi
   simp only [BitVec.getElem_and,BitVec.getElem_not,BitVec.getElem_shiftLeft]
   by_cases h3:i<3
   ·have:i=0∨i=1∨i=2:=by omega
    rcases this with rfl | rfl | rfl<;>simp<;>decide
   ·have h7:(BitVec.ofInt 64 7)[i]=false:=by
     have:BitVec.ofInt 64 7=7#64:=rfl
     rw [this]
     exact zk ⟨i,hi⟩ (by simpa using h3)
    rw [h7]
    simp [h3]
    congr 1
    omega
  rw [e]
  simp only [BitVec.toNat_shiftLeft,BitVec.toNat_ushiftRight,BitVec.toNat_ofNat,Nat.mod_eq_of_lt hx,Nat.shiftRight_eq_div_pow,Nat.shiftLeft_eq]
  omega
 show IntKind.i64.wrap ((BitVec.ofInt 64 (x:Int) &&& ~~~ BitVec.ofInt 64 7).toNat:Int)=_
 rw [h1,wrap_i64];omega
end Go.Bm
namespace Go.ny
open Go.Bm
abbrev sT:=Int×Int×Int×Int
abbrev Xt:=Int×Int
abbrev n8:=Int×Bool
abbrev nz:=Int×Int×Int
abbrev Hnd:=Int×Int×Int
abbrev qa:=Int×Int×Int×Int
abbrev n9:=Int×Int×Int×Int×Int×Int×Int
def within (a lo hi:Int):Bool:=decide (lo≤a) && decide (a≤hi)
theorem jD {a lo hi:Int}:within a lo hi=true↔lo≤a∧a≤hi:=by simp [within]
def dn (p:qa):Bool:=within p.1 1 8 && (within p.2.1 1 4 && (within p.2.2.1 0 2048 && (within p.2.2.2 0 8192 && (decide (p.2.2.1%8=0) && decide (p.2.2.2%8=0)))))
theorem fa {p:qa}:dn p=true↔(1≤p.1∧p.1≤8)∧(1≤p.2.1∧p.2.1≤4)∧(0≤p.2.2.1∧p.2.2.1≤2048)∧(0≤p.2.2.2∧p.2.2.2≤8192)∧p.2.2.1%8=0∧p.2.2.2%8=0:=by
 simp [dn,jD]
def QZ (n:Int):Int:=n+7-(n+7)%8
def eo (c:sT):Bool:=within c.2.2.2 0 16777215 && (if c.1=0∨c.1=1 then decide (c.2.1=0) && decide (c.2.2.1 = -1) else if c.1=2 then within c.2.1 1 7 && within c.2.2.1 (-1) 7 else if c.1=3 then decide (c.2.1=0) && within c.2.2.1 (-1) 7 else false)
def vQ:sT:=(0,0,0,0)
def pV (c:sT) (fr:Int):sT×Int:=
 if eo c=false∨within fr 0 7=false then (vQ,1)
 else if c.1=0 then (vQ,11)
 else if c.1=3 then (vQ,10)
 else if c.1=1 then ((2,c.2.1+1,fr,c.2.2.2),0)
 else if c.2.2.1≠fr then (vQ,15)
 else if c.2.1=7 then (vQ,16)
 else ((c.1,c.2.1+1,c.2.2.1,c.2.2.2),0)
def kK (c:sT) (s:Int):Int:=if eo c=false then 1 else if c.1≠s then 11 else 0
def pU (c:sT):sT×Int:=if kK c 2≠0 then (vQ,kK c 2) else if c.2.1=1 then ((3,0,c.2.2.1,c.2.2.2),0) else ((c.1,c.2.1-1,c.2.2.1,c.2.2.2),0)
def qT (e:Int):Int:=(e+1)%16777216
def sE (c:sT):sT×Int:=if kK c 3≠0 then (vQ,kK c 3) else ((1,0,-1,qT c.2.2.2),0)
def Jo (l:List n8):Int:=match l.getLast? with
 | some e=>e.1
 | none=>0
def j6:List n8→Int→Option Nat
 | [],_=>none
 | e::l,s=>if e=(s,true) then some 0 else (j6 l s).map (· + 1)
def reach (l:List n8) (s:Int):Bool:=decide (s=0) || (j6 l s).isSome
def parent (l:List n8) (s:Int):Int:=match j6 l s with
 | some i=>Jo (l.take i)
 | none=>-1
def sP (l:List n8) (s:Int):Nat→Int→Bool
 | 0,_=>false
 | n+1,b=>if b=s then true else sP l s n (parent l b)
def Hj (l:List n8) (s b:Int):Bool:=decide (s=0) || sP l s 9 b
def nU (iK bytes:Int):Int×Int:=if within iK 0 6=false∨within bytes 0 512=false then (0,1) else (2+iK+(bytes+7) / 8,0)
end Go.ny
namespace Go.Bm
section
variable {α β σ ρ:Type}
def Ok (x:Option α) (P:α→Prop):Prop:=∃a,x=some a∧P a
theorem Ok.some {a:α} {P:α→Prop} (h:P a):Ok (some a) P:=⟨a,rfl,h⟩
theorem Ok.bd {x:Option α} {f:α→Option β} {Q:α→Prop} {P:β→Prop} (h:Ok x Q) (k:∀a,Q a→Ok (f a) P):Ok (Go.Bm.bd x f) P:=by
 obtain ⟨a,rfl,h⟩:=h
 exact k a h
theorem Ok.ij {x:Option α} {f:α→Option β} {a:α} {P:β→Prop} (h:x=Option.some a) (k:Ok (f a) P):Ok (Go.Bm.bd x f) P:=by rw [lq h];exact k
theorem Ok.br {c:Bool} {x y:Option α} {P:α→Prop} (h1:c=true→Ok x P) (h2:c=false→Ok y P):Ok (Go.Bm.br c x y) P:=by
 cases c with
 | true=>exact h1 rfl
 | false=>exact h2 rfl
theorem Ok.gd {p:Prop} {inst:Decidable p} {x:Option α} {P:α→Prop} (h:p) (k:Ok x P):Ok (@Go.Bm.gd α p inst x) P:=by rw [nV h];exact k
theorem Ok.mn {o:Option α} {a:α} {n:Option β} {s:α→Option β} {P:β→Prop} (h:o=Option.some a) (k:Ok (s a) P):Ok (opt o n s) P:=by rw [GF h];exact k
theorem Ok.Dt {o:Option α} {n:Option β} {s:α→Option β} {P:β→Prop} (h:o=none) (k:Ok n P):Ok (opt o n s) P:=by rw [GD h];exact k
theorem Ok.opt {o:Option α} {n:Option β} {s:α→Option β} {P:β→Prop} (h:o=none→Ok n P) (k:∀a,o=Option.some a→Ok (s a) P):Ok (Go.Bm.opt o n s) P:=by
 cases o with
 | none=>exact h rfl
 | some a=>exact k a rfl
theorem Ok.jn {f:(σ→Option ρ)→Option ρ} {K:σ→Option ρ} {P:ρ→Prop} (h:Ok (f K) P):Ok (Go.Bm.jn f K) P:=by rw [g8];exact h
theorem Ok.uK {f:(σ→Option ρ)→Option ρ} {K:σ→Option ρ} {P:ρ→Prop} (Q:σ→Prop) (hK:∀s,Q s→Ok (K s) P) (h:∀k,(∀s,Q s→Ok (k s) P)→Ok (f k) P):Ok (Go.Bm.jn f K) P:=by rw [g8];exact h K hK
theorem Ok.loop {f:(σ→Option α)→σ→Option α} {P:α→Prop} (I:Nat→σ→Prop) (h:∀m s g,I m s→(∀m' s',m' < m→I m' s'→Ok (g s') P)→Ok (f g s) P) {N:Nat} {s0:σ} (hN:N<nh) (h0:I N s0):Ok (Go.Bm.loop f s0) P:=by
 have key:∀m n s,m<n→I m s→Ok (iter f n s) P:=by
  intro m
  induction m using Nat.strongRecOn with
  | _ m ih=>
   intro n s hn hs
   cases n with
   | zero=>omega
   | succ n=>exact h m s (iter f n) hs (fun m' s' hm hs'=>ih m' hm n s' (by omega) hs')
 rw [rT]
 exact key N nh s0 hN h0
theorem eA {a b:Int}:ba a b=true↔a<b:=decide_eq_true_iff
theorem jW {a b:Int}:b9 a b=true↔a≤b:=decide_eq_true_iff
theorem fV {a b:Int}:aj a b=true↔a=b:=decide_eq_true_iff
theorem g6 {a b:Int}:ba a b=false↔¬a<b:=decide_eq_false_iff_not
theorem k_ {a b:Int}:b9 a b=false↔¬a≤b:=decide_eq_false_iff_not
theorem um {a b:Int}:aj a b=false↔¬a=b:=decide_eq_false_iff_not
theorem jV {a:Bool}:ax a=true↔a=false:=by cases a<;>simp [ax]
theorem gw {a:Bool}:ax a=false↔a=true:=by cases a<;>simp [ax]
end
section
open Go.RowKit
section
variable {P:Program} {E:Env} {o:Oper} {ρ:Operand→A} {h:H} {β:Type} {K:A→H→Fp→Option β} {r:β}
def vo:A→Bool
 | .agg _=>true
 | _=>false
theorem V.Zg {g:G} {p:A} {v:Value} {cs:List A} (hv:V g p v) (ha:vo p=false) (hc:p.cells=some cs):v.oneCell'=true:=by
 cases hv with
 | v x=>
  unfold A.cells at hc
  cases hx:v.oneCell' with
  | true=>rfl
  | false=>simp only [hx,cond_false] at hc;cases hc
 | agg=>cases ha
 | il=>cases hc
 | un=>cases hc
 | b8=>cases hc
 | op r o v h0 h1=>exact V.xO (.op r o v h0 h1)
 | os r z o v h0 h1=>exact V.xO (.os r z o v h0 h1)
 | om r o v h0 h1=>exact V.xO (.om r o v h0 h1)
 | tl t f l v hd=>exact hd.one
 | _=>rfl
def jU (a:Bool) (t:Ty) (p:A):Option t.T:=bif a then (match p with
 | .agg cs=>nv t cs
 | _=>none) else bif vo p then none else (match p.cells with
 | some cs=>bif Nat.beq t.size 1 then nv t cs else none
 | none=>none)
theorem iO {a:Bool} {t:Ty} {p:A} {x:t.T} (hx:jU a t p=some x) {g:G} {v:Value} (hv:V g p v):V g (bM a t x) v:=by
 unfold jU at hx
 unfold bM
 cases a with
 | true=>
  simp only [cond_true] at hx ⊢
  split at hx
  ·rename_i cs
   obtain ⟨us,rfl⟩:=hv.uC rfl
   exact Vs.agg ((hJ (g:=g) t cs x hx).2 _ (hv.cells rfl))
  ·cases hx
 | false=>
  simp only [cond_false] at hx ⊢
  cases ha:vo p with
  | true=>rw [ha] at hx;cases hx
  | false=>
   rw [ha] at hx;simp only [cond_false] at hx
   split at hx
   ·rename_i cs hc
    obtain ⟨h1,hx⟩:=af hx
    have h1:=beq_eq h1
    have JJ:=(hJ (g:=g) t cs x hx).2 _ (hv.cells hc)
    rw [qR (hv.Zg ha hc)] at JJ
    have hl:(aA t x).length=1:=by rw [bH];exact h1
    match he:aA t x,hl with
    | [c],_=>
     rw [he] at JJ
     exact (JJ.2 0 c v rfl rfl).1
   ·cases hx
theorem dH.conv {S S':Hp} {ρ':Operand→A} {pv:A} (hc:∀x∈o.op.operands,∀g v,V g (ρ x) v→V g (ρ' x) v) (k:dH P o ρ' S S' pv):dH P o ρ S S' pv:=
 fun g w a next Q hI hv K=>k g w a next Q hI (fun x hx=>hc x hx g _ (hv x hx)) K
def told (ρ:Operand→A) (y:Operand) (p:A):Operand→A:=fun z=>open Classical in if z=y then p else ρ z
theorem eY {ρ:Operand→A} {y:Operand} {p:A}:told ρ y p y=p:=if_pos rfl
theorem mG {ρ:Operand→A} {y z:Operand} {p:A} (h:z≠y):told ρ y p z=ρ z:=if_neg h
theorem nD {ρ:Operand→A} {y:Operand} {p:A} (h:∀g v,V g (ρ y) v→V g p v):∀(x:Operand) (g:G) (v:Value),V g (ρ x) v→V g (told ρ y p x) v:=fun x g v hv=>by
 by_cases hx:x=y
 ·subst hx;rw [eY];exact h g v hv
 ·rw [mG hx];exact hv
def N4 (h:H) (r j:Nat) (k:(ka:Bool)→(tk:Ty)→(va:Bool)→(tv:Ty)→List (tk.T×tv.T)→Option β):Option β:=match bl h.rg r with
 | some ⟨_,.map ka tk va tv,c⟩=>bif Nat.blt r 64 then k ka tk va tv (nth (α:=List (tk.T×tv.T)) [] c j) else none
 | _=>none
def gI (ka:Bool) (tk:Ty) (va:Bool) (tv:Ty) (es:List (tk.T×tv.T)):List (A×A):=es.map fun e=>(bM ka tk e.1,bM va tv e.2)
theorem xq {ka va:Bool} {tk tv:Ty} {c:List (List (tk.T×tv.T))} {j:Nat} (h:j<c.length):cU (.map ka tk va tv) c j=some (.cl (.map (gI ka tk va tv (nth [] c j)))):=by
 show (match jY (α:=List (tk.T×tv.T)) c j with | some es=>some (Ob.cl (.map (gI ka tk va tv es))) | none=>none)=_
 have e:jY c j=some (nth [] c j):=by simp [jY,nth,zA,zD h]
 rw [e]
theorem ve {q j:Nat} {k:(ka:Bool)→(tk:Ty)→(va:Bool)→(tv:Ty)→List (tk.T×tv.T)→Option β} (hr:N4 h q j k=some r):∃(ka:Bool) (tk:Ty) (va:Bool) (tv:Ty) (es:List (tk.T×tv.T)),k ka tk va tv es=some r∧q<64∧(∃x:Rg,bl h.rg q=some x∧∃c:List (List (tk.T×tv.T)),x=⟨x.r,.map ka tk va tv,c⟩∧es=nth [] c j) ∧
  ∀g S (w:World) b s,Inv g S w→S.ob (dV q j)=(hp h).ob (dV q j)→(S.fr (dV q j)↔(hp h).fr (dV q j))→g.bg (dV q j)=some (some b,s)→S.ob (dV q j)=some (.cl (.map (gI ka tk va tv es))):=by
 unfold N4 at hr
 split at hr
 ·rename_i rr ka tk va tv c hf
  obtain ⟨h1,h2⟩:=af hr
  have h3:q<64:=aU h1
  refine ⟨ka,tk,va,tv,_,h2,h3,⟨_,hf,c,rfl,rfl⟩,fun g S w b s hI e e2 hg=>?_⟩
  have fp:j<List.length (α:=List (tk.T×tv.T)) c:=by
   rcases Nat.lt_or_ge j (List.length (α:=List (tk.T×tv.T)) c) with fp | s7
   ·exact fp
   ·have:S.fr (dV q j):=e2.2 (by rw [fj.2,eU h3 hf];exact s7)
    have:=hI.fresh _ this
    rw [this] at hg;cases hg
  rw [e,fj.1,jQ h3 hf]
  exact xq fp
 ·cases hr
def xX (ok:Bool) (z:A) (res:Option (Nat×A)) (h:H) (T:Fp) (K:A→H→Fp→Option β):Option β:=bif ok then K (.il [xj z res,.v (.bool res.isSome)]) h T else ze (xj z res) (fun v=>K v h T)
theorem wD {ok:Bool} {z:A} {res:Option (Nat×A)} {T:List Nat} (hd:∀c,o.op≠.defer c) (hr:xX ok z res h (.rd T) K=some r) (k:∀S2,Agree (.rd T) (hp h) S2→dH P o ρ S2 S2 (bif ok then .il [xj z res,.v (.bool res.isSome)] else xj z res)):Out P o ρ h K r:=by
 unfold xX at hr
 cases ok with
 | true=>exact .read T hr k hd
 | false=>exact .sp hr (.read _ k hd)
def Ie (E:Env) (T:Nat) (ok:Bool) (px py:A) (h:H) (K:A→H→Fp→Option β):Option β:=match bZ E.cS T with
 | some ⟨.map KT VT,_,_,_,_,_,_⟩=>match bZ E.cS KT,bZ E.cS VT with
  | some e,some e2=>match yZ e2.zero with
   | some z=>match px with
    | .mp (.loc q)=>match h.t.get q with
     | some (.cl (.map es))=>match g7 E KT e.d py py with
      | some _=>bif kI E e.d && Nat.blt q 16777216 then qZ (g7 E KT e.d py) es 0 (fun res=>xX ok z res h (.rd [cE q]) K) else none
      | none=>none
     | _=>none
    | .mp (.dq q j)=>N4 h q j (fun ka tk va tv es=>bif AU E KT e ka tk && kI E e.d then (match jU ka tk py with
     | some x=>opt (CC (q0 tk x) es 0) (xX ok z none h (.rd [gB q]) K) (fun p=>xX ok z (some (p.1,bM va tv p.2)) h (.rd [gB q]) K)
     | none=>none) else none)
    | _=>none
   | none=>none
  | _,_=>none
 | _=>none
theorem DQ (hE:bL P E) {T:Nat} {x y:Operand} {ok:Bool} (ho:o.op = .lookup T x y ok) (hr:Ie E T ok (ρ x) (ρ y) h K=some r):Out P o ρ h K r:=by
 have hd:∀c,o.op≠.defer c:=by rw [ho];intro c e;cases e
 unfold Ie at hr
 split at hr
 ·rename_i KT VT _ _ _ _ _ _ ht
  have hT:=(hE.cS _ _ ht).u
  split at hr
  ·rename_i e e2 he OE
   obtain ⟨i,t1,t2,t3,t4,t5,t6⟩:=(hE.cS _ _ OE).ti
   split at hr
   ·rename_i z hz
    have Zy:=yY hz t6
    split at hr
    ·rename_i q hx
     split at hr
     ·rename_i es hg
      split at hr
      ·rename_i b hs
       obtain ⟨h1,hr⟩:=af hr
       simp only [zC] at h1
       have hq:=aU h1.2
       obtain ⟨res,k1,k2⟩:=nb _ _ _ hr
       have dI:(hp h).ob q=some (.cl (.map es)):=by rw [iV hq];unfold et;rw [hg];rfl
       exact wD hd k1 (fun S2 hA=>ph hE ho hT he OE h1.1 hs hx ((hA q (aB hq (.head _))).1.trans dI) k2 Zy)
      ·cases hr
     ·cases hr
    ·rename_i q j hx
     obtain ⟨ka,tk,va,tv,es,hr,hq,_,dI⟩:=ve hr
     obtain ⟨h1,hr⟩:=af hr
     simp only [zC] at h1
     split at hr
     ·rename_i kx pE
      have l6:x≠y:=fun e=>by
       rw [←e,hx] at pE
       unfold jU at pE
       cases ka with
       | true=>cases pE
       | false=>
        simp only [cond_false,vo,A.cells] at pE
        obtain ⟨_,pE⟩:=af pE
        have hs:=h1.1
        unfold AU at hs
        split at hs
        ·simp only [Bool.not_false,Bool.true_and] at hs
         split at hs
         ·simp [nv] at pE
         ·cases hs
        ·simp at hs
        ·cases hs
      have main:∀res,CC (q0 tk kx) es 0=res→xX ok z (res.map fun p=>(p.1,bM va tv p.2)) h (.rd [gB q]) K=some r→Out P o ρ h K r:=fun res hm hr=>by
       refine wD hd hr (fun S2 hA=>dH.bg fun g w a hI hv=>?_)
       have sX:=hv x (by simp [ho,Op.operands])
       rw [hx] at sX
       have ha:=hA (dV q j) (bO (r:=q) (j:=j) hq (.head _))
       have yc:∃b s,g.bg (dV q j)=some (some b,s):=by
        generalize a.eval x=vx at sX
        cases sX with
        | mp _ b s bG=>exact ⟨b,s,bG⟩
       obtain ⟨b,s,bG⟩:=yc
       have dc:=dI g S2 w b s hI ha.1 ha.2 bG
       refine dH.conv (ρ':=told ρ y (bM ka tk kx)) (fun x _ g v hv=>nD (fun g v hv=>iO pE hv) x g v hv) ?_
       have hf:=jB (va:=va) (tv:=tv) he h1.1 kx es 0
       rw [hm] at hf
       exact ph (X:=.dq q j) (es:=gI ka tk va tv es) hE ho hT he OE h1.2 (b:=q0 tk kx kx) (by rw [eY];exact rU he h1.1 kx kx) (by rw [mG l6,hx]) dc (by rw [eY];exact hf) Zy
      rcases gF hr with ⟨e,hr⟩ | ⟨p,e,hr⟩
      ·exact main none e hr
      ·exact main (some p) e hr
     ·cases hr
    ·cases hr
   ·cases hr
  ·cases hr
 ·cases hr
def N5 (h:H) (K:A→H→Fp→Option β):Option β:=lR (.cl (.map [])) h (fun q h'=>K (.mp (.loc q)) h' (.wr [cE q]))
theorem DO {T:Nat} (ho:o.op = .makeMap T none) (hr:N5 h K=some r):Out P o ρ h K r:=by
 have hd:∀c,o.op≠.defer c:=by rw [ho];intro c e;cases e
 obtain ⟨h',k1,hq,hf,hh⟩:=eM hr
 exact ⟨_,_,_,k1,.of _ hh rfl (fun u hu=>by rcases zF.1 hu with rfl;exact aB (o:=h.aQ) hq (.head _)) (fun S2 hA=>tN ho ((hA _ (aB hq (.head _))).2.2 hf)) hd⟩
def xw (h:H) (q j:Nat) (ka:Bool) (tk:Ty) (va:Bool) (tv:Ty) (es:List (tk.T×tv.T)) (k:H→Option β):Option β:=bif tV h (gB q) then none else match bl h.rg q with
 | some ⟨_,.map Tk Q1 RR Q0,c⟩=>if ka=Tk∧va=RR then (match eG (.aH (.pair tk tv)) (.aH (.pair Q1 Q0)) es with
  | some yS=>k { h with rg:=hO h.rg q (.map Tk Q1 RR Q0) (aZ (α:=List (Q1.T×Q0.T)) c j yS) }
  | none=>none) else none
 | _=>none
theorem o4 {ka va:Bool} {tk tv:Ty} {c:List (List (tk.T×tv.T))} {j:Nat} {es:List (tk.T×tv.T)} (hj:j<c.length) (i:Nat):cU (.map ka tk va tv) (aZ c j es) i=if i=j then some (.cl (.map (gI ka tk va tv es))) else cU (.map ka tk va tv) c i:=by
 show (match jY (α:=List (tk.T×tv.T)) (aZ c j es) i with | some es=>some (Ob.cl (.map (gI ka tk va tv es))) | none=>none)=if i=j then some (.cl (.map (gI ka tk va tv es))) else (match jY (α:=List (tk.T×tv.T)) c i with | some es=>some (Ob.cl (.map (gI ka tk va tv es))) | none=>none)
 rw [m7]
 by_cases h:i=j
 ·rw [if_pos ⟨h,hj⟩,if_pos h]
 ·rw [if_neg (fun k=>h k.1),if_neg h]
theorem rE {q j:Nat} {ka:Bool} {tk:Ty} {va:Bool} {tv:Ty} {es:List (tk.T×tv.T)} {k:H→Option β} (h3:q<64) (hr:xw h q j ka tk va tv es k=some r):∃h',k h'=some r∧uF h h' (.dq q j) (.cl (.map (gI ka tk va tv es))):=by
 obtain ⟨_,hr⟩:=hC hr
 split at hr
 ·rename_i rr Tk Q1 RR Q0 c hf
  split at hr
  ·rename_i e
   obtain ⟨rfl,rfl⟩:=e
   split at hr
   rotate_left
   ·cases hr
   rename_i yS oJ
   obtain ⟨e,oJ⟩:=bY oJ
   cases e
   obtain rfl:es=yS:=oJ
   refine ⟨_,hr,fun i hi=>?_,fun mB=>?_⟩
   ·have hn:=oS h3 hi
    have:=km (h:=h) (k:=.map ka tk va tv) (c:=aZ (α:=List (tk.T×tv.T)) c j es) hf i
    rw [if_neg hn,if_neg hn] at this
    exact this
   ·have fp:j<List.length (α:=List (tk.T×tv.T)) c:=by
     rcases Nat.lt_or_ge j (List.length (α:=List (tk.T×tv.T)) c) with fp | s7
     ·exact fp
     ·exact absurd (by rw [show (Ref.dq q j).id=dV q j from rfl,fj.2,eU h3 hf];exact s7) mB
    exact pC (j:=j) (u:=.set (dV q j) _) h3 hf (oE (α:=List (tk.T×tv.T)) c j _) (fun i hi=>by rw [o4 (c:=c) fp,if_neg hi]) rfl (by rw [o4 (c:=c) fp,if_pos rfl];exact uX) rfl
  ·cases hr
 ·cases hr
def wA (E:Env) (T:Nat) (ins ne:Bool) (px py pz:A) (h:H) (K:A→H→Fp→Option β):Option β:=match bZ E.cS T with
 | some ⟨.map KT _,_,_,_,_,_,_⟩=>match bZ E.cS KT with
  | some e=>match px with
   | .mp (.loc q)=>match h.t.get q with
    | some (.cl (.map es))=>match g7 E KT e.d py py with
     | some _=>bif kI E e.d && Nat.blt q 16777216 && !(tV h (cE q)) then qZ (g7 E KT e.d py) es 0 (fun res=>match res with
      | none=>dK h.t q (some (.cl (.map (es++[(py,pz)])))) (fun t1=>K .b8 { h with t:=t1 } (.wr [cE q]))
      | some _=>none) else none
     | none=>none
    | _=>none
   | .mp (.dq q j)=>N4 h q j (fun ka tk va tv es=>bif AU E KT e ka tk && kI E e.d && ne then (match jU ka tk py,jU va tv pz with
    | some x,some y=>opt (CC (q0 tk x) es 0) (xw h q j ka tk va tv (cat es [(x,y)]) (fun h'=>K .b8 h' (.wr [gB q])))
     (fun p=>bif ins then none else xw h q j ka tk va tv (H_ es p.1 y) (fun h'=>K .b8 h' (.wr [gB q])))
    | _,_=>none) else none)
   | _=>none
  | none=>none
 | _=>none
theorem tT {κ α:Type} {p:κ→Bool}:∀(l:List (κ×α)) (i n:Nat) (v:α),CC p l i=some (n,v)→∃m k,n=i+m∧l[m]?=some (k,v)∧p k=true
 | [],_,_,_,h=>by cases h
 | (k,v)::l,i,n,v',h=>by
  unfold CC at h
  cases hk:p k with
  | true=>rw [hk] at h;cases h;exact ⟨0,k,rfl,rfl,hk⟩
  | false=>
   rw [hk] at h
   obtain ⟨m,k',h1,h2,h3⟩:=tT l (i+1) n v' h
   exact ⟨m+1,k',by omega,h2,h3⟩
theorem V.DL {g:G} {X:Ref} {v:Value} (hv:V g (.mp X) v):∃b s,g.bg X.id=some (some b,s):=by
 cases hv with
 | mp _ b s bG=>exact ⟨b,s,bG⟩
theorem tG {E:Env} {K:Nat} {e:cm} {ka:Bool} {tk:Ty} {X:Ref} {kx:tk.T} (hs:AU E K e ka tk=true) (pE:jU ka tk (.mp X)=some kx):False:=by
 unfold jU at pE
 cases ka with
 | true=>cases pE
 | false=>
  simp only [cond_false,vo,A.cells] at pE
  obtain ⟨_,pE⟩:=af pE
  unfold AU at hs
  split at hs
  ·simp only [Bool.not_false,Bool.true_and] at hs
   split at hs
   ·simp [nv] at pE
   ·cases hs
  ·simp at hs
  ·cases hs
theorem tR (hE:bL P E) {T:Nat} {x y z:Operand} {ins ne:Bool} (hzy:ne=true→z≠y) (ho:(ins=false∧o.op = .mapUpdate T x y z)∨(ins=true∧o.op = .insert T x y z)) (hr:wA E T ins ne (ρ x) (ρ y) (ρ z) h K=some r):Out P o ρ h K r:=by
 have hd:∀c,o.op≠.defer c:=by rcases ho with ⟨_,ho⟩ | ⟨_,ho⟩<;>(rw [ho];intro c e;cases e)
 have Iw:o.op = .mapUpdate T x y z∨o.op = .insert T x y z:=by rcases ho with ⟨_,ho⟩ | ⟨_,ho⟩<;>simp [ho]
 have oz:x∈o.op.operands:=by rcases Iw with ho | ho<;>simp [ho,Op.operands]
 unfold wA at hr
 split at hr
 ·rename_i KT VT _ _ _ _ _ _ ht
  have hT:=(hE.cS _ _ ht).u
  split at hr
  ·rename_i e he
   split at hr
   ·rename_i q hx
    split at hr
    ·rename_i es hg
     split at hr
     ·rename_i b hs
      obtain ⟨h1,hr⟩:=af hr
      simp only [zC] at h1
      have hq:=aU h1.1.2
      obtain ⟨res,k1,k2⟩:=nb _ _ _ hr
      have dI:(hp h).ob q=some (.cl (.map es)):=by rw [iV hq];unfold et;rw [hg];rfl
      split at k1
      ·obtain ⟨_,t1,k3,k4⟩:=bh k1
       exact ⟨_,_,_,k3,.of [.set q (.cl (.map (es++[(ρ y,ρ z)])))] (nS (x:=.cl (.map (es++[(ρ y,ρ z)]))) hq k4) rfl (fun u hu=>by rcases zF.1 hu with rfl;exact aB (o:=q) hq (.head _))
        (fun S2 hA=>wx hE Iw hT he h1.1.1 hs hx ((hA q (aB hq (.head _))).1.trans dI) (fun g v hv=>hv) (fun g v hv=>hv) k2) hd⟩
      ·cases k1
     ·cases hr
    ·cases hr
   ·rename_i q j hx
    obtain ⟨ka,tk,va,tv,es,hr,hq,_,dI⟩:=ve hr
    obtain ⟨h1,hr⟩:=af hr
    simp only [zC] at h1
    split at hr
    ·rename_i kx vy pE TB
     have l6:x≠y:=fun e=>by rw [←e,hx] at pE;exact tG h1.1.1 pE
     have hX:xP (.dq q j)=true:=by show Nat.blt q 64=true;simpa using hq
     have xy:∀(g:G) (S:Hp) (w:World) (a:Act),Inv g S w→(∀x∈o.op.operands,V g (ρ x) (a.eval x))→g.bg (Ref.dq q j).id≠none:=fun g S w a hI hv=>by
      have sX:=hv x oz
      rw [hx] at sX
      obtain ⟨b,s,bG⟩:=sX.DL
      rw [bG];intro h;cases h
     have here:∀S2,Agree (.wr (gT (.dq q j)::[])) (hp h) S2→∀{S':Hp} {pv:A},(S2.ob (dV q j)=some (.cl (.map (gI ka tk va tv es)))→dH P o ρ S2 S' pv)→dH P o ρ S2 S' pv:=fun S2 hA _ _ k=>dH.bg fun g w a hI hv=>by
      have sX:=hv x oz
      rw [hx] at sX
      obtain ⟨b,s,bG⟩:=sX.DL
      have ha:=hA (dV q j) (bO (r:=q) (j:=j) hq (.head _))
      exact k (dI g S2 w b s hI ha.1 ha.2 bG)
     have Rm:told ρ y (bM ka tk kx) x = .mp (.dq q j):=by rw [mG l6,hx]
     have JH:∀g v,V g (told ρ y (bM ka tk kx) z) v→V g (bM va tv vy) v:=fun g v hv=>by
      rw [mG (hzy h1.2)] at hv;exact iO TB hv
     have conv:=fun {S S':Hp} {pv:A}=>dH.conv (P:=P) (o:=o) (ρ:=ρ) (ρ':=told ρ y (bM ka tk kx)) (S:=S) (S':=S') (pv:=pv) (fun x _ g v hv=>nD (fun g v hv=>iO pE hv) x g v hv)
     have hs:g7 E KT e.d (told ρ y (bM ka tk kx) y) (told ρ y (bM ka tk kx) y)=some (q0 tk kx kx):=by rw [eY];exact rU he h1.1.1 kx kx
     have hf:=jB (va:=va) (tv:=tv) he h1.1.1 kx es 0
     rcases gF hr with ⟨e1,hr⟩ | ⟨p,e1,hr⟩
     ·obtain ⟨h',k1,k2⟩:=rE hq hr
      refine ⟨_,_,_,k1,.put hd hX k2 xy (fun S2 hA=>here S2 hA fun dc=>?_)⟩
      have e2:gI ka tk va tv (cat es [(kx,vy)])=gI ka tk va tv es++[(bM ka tk kx,bM va tv vy)]:=by simp [gI,cat]
      rw [e2]
      rw [e1] at hf
      exact conv (wx (X:=.dq q j) hE Iw hT he h1.1.2 hs Rm dc (fun g v hv=>by rw [eY] at hv;exact hv) JH (by rw [eY];exact hf))
     ·cases hi:ins with
      | true=>rw [hi] at hr;cases hr
      | false=>
       rw [hi] at hr;simp only [cond_false] at hr
       obtain ⟨h',k1,k2⟩:=rE hq hr
       refine ⟨_,_,_,k1,.put hd hX k2 xy (fun S2 hA=>here S2 hA fun dc=>?_)⟩
       have e2:gI ka tk va tv (H_ es p.1 vy)=xV (gI ka tk va tv es) p.1 (bM va tv vy):=by
        unfold gI H_ xV
        apply List.ext_getElem?
        intro m
        simp only [zL,List.getElem?_modify]
        cases es[m]? with
        | none=>rfl
        | some u=>
         by_cases hm:p.1=m
         ·simp [hm]
         ·simp [hm]
       rw [e2]
       rw [e1] at hf
       obtain ⟨m,kk,m1,m2,m3⟩:=tT es 0 p.1 p.2 e1
       have hmu:o.op = .mapUpdate T x y z:=by
        rcases ho with ⟨_,ho⟩ | ⟨hh,_⟩
        ·exact ho
        ·rw [hi] at hh;cases hh
       refine conv (Ar (X:=.dq q j) (n:=p.1) hE hmu hT he h1.1.2 hs Rm dc JH (by rw [eY];exact hf) (fun g v u v' hu hv uL=>?_))
       rw [eY] at hv
       have tY:(gI ka tk va tv es)[p.1]?=some (bM ka tk kk,bM va tv p.2):=by
        rw [m1,Nat.zero_add]
        unfold gI
        rw [zL,m2];rfl
       rw [tY] at hu
       cases hu
       exact AT h1.1.1 m3 hv uL
    ·cases hr
   ·cases hr
  ·cases hr
 ·cases hr
end
end
section
open Go.RowKit
section
variable {P:Program} {E:Env} {o:Oper} {ρ:Operand→A} {h:H} {β:Type} {K:A→H→Fp→Option β} {r:β}
def AM (E:Env) (T:Nat) (px py:A) (h:H) (K:A→H→Fp→Option β):Option β:=match bZ E.cS T with
 | some ⟨.map KT _,_,_,_,_,_,_⟩=>match bZ E.cS KT with
  | some e=>match px with
   | .mp (.loc q)=>match h.t.get q with
    | some (.cl (.map es))=>match g7 E KT e.d py py with
     | some _=>bif kI E e.d && Nat.blt q 16777216 && !(tV h (cE q)) then qZ (g7 E KT e.d py) es 0 (fun res=>dK h.t q (some (.cl (.map (BN es res)))) (fun t1=>K .b8 { h with t:=t1 } (.wr [cE q]))) else none
     | none=>none
    | _=>none
   | .mp (.dq q j)=>N4 h q j (fun ka tk va tv es=>bif AU E KT e ka tk && kI E e.d then (match jU ka tk py with
    | some x=>opt (CC (q0 tk x) es 0) (xw h q j ka tk va tv es (fun h'=>K .b8 h' (.wr [gB q])))
     (fun p=>xw h q j ka tk va tv (Ib es p.1) (fun h'=>K .b8 h' (.wr [gB q])))
    | none=>none) else none)
   | _=>none
  | none=>none
 | _=>none
theorem BQ {ka:Bool} {tk:Ty} {va:Bool} {tv:Ty} (es:List (tk.T×tv.T)) (p:Option (Nat×tv.T)) :
  gI ka tk va tv (match p with | some p=>Ib es p.1 | none=>es)=BN (gI ka tk va tv es) (p.map fun p=>(p.1,bM va tv p.2)):=by
 cases p with
 | none=>rfl
 | some p=>
  show (es.eraseIdx p.1).map _=(es.map _).eraseIdx p.1
  generalize p.1=n
  induction es generalizing n with
  | nil=>rfl
  | cons a es ih=>cases n with
   | zero=>rfl
   | succ n=>simp only [List.map_cons,List.eraseIdx_cons_succ,List.map_cons,ih n]
theorem AL (hE:bL P E) {T:Nat} {x y:Operand} {Ts:Array TypeId} (ho:o.op = .call { callee:=.builtin .delete,args:=#[x,y],argTypes:=Ts }) (h0:Ts[0]?=some T) (hr:AM E T (ρ x) (ρ y) h K=some r):Out P o ρ h K r:=by
 have hd:∀c,o.op≠.defer c:=by rw [ho];intro c e;cases e
 have oz:x∈o.op.operands:=by simp [ho,Op.operands,Call.operands]
 unfold AM at hr
 split at hr
 ·rename_i KT VT _ _ _ _ _ _ ht
  have hT:=(hE.cS _ _ ht).u
  split at hr
  ·rename_i e he
   split at hr
   ·rename_i q hx
    split at hr
    ·rename_i es hg
     split at hr
     ·rename_i b hs
      obtain ⟨h1,hr⟩:=af hr
      simp only [zC] at h1
      have hq:=aU h1.1.2
      obtain ⟨res,k1,k2⟩:=nb _ _ _ hr
      have dI:(hp h).ob q=some (.cl (.map es)):=by rw [iV hq];unfold et;rw [hg];rfl
      obtain ⟨_,t1,k3,k4⟩:=bh k1
      exact ⟨_,_,_,k3,.of [.set q (.cl (.map (BN es res)))] (nS (x:=.cl (.map (BN es res))) hq k4) rfl (fun u hu=>by rcases zF.1 hu with rfl;exact aB (o:=q) hq (.head _))
       (fun S2 hA=>pk hE ho h0 hT he h1.1.1 hs hx ((hA q (aB hq (.head _))).1.trans dI) k2) hd⟩
     ·cases hr
    ·cases hr
   ·rename_i q j hx
    obtain ⟨ka,tk,va,tv,es,hr,hq,_,dI⟩:=ve hr
    obtain ⟨h1,hr⟩:=af hr
    simp only [zC] at h1
    split at hr
    ·rename_i kx pE
     have l6:x≠y:=fun e=>by rw [←e,hx] at pE;exact tG h1.1 pE
     have hX:xP (.dq q j)=true:=by show Nat.blt q 64=true;simpa using hq
     have xy:∀(g:G) (S:Hp) (w:World) (a:Act),Inv g S w→(∀x∈o.op.operands,V g (ρ x) (a.eval x))→g.bg (Ref.dq q j).id≠none:=fun g S w a hI hv=>by
      have sX:=hv x oz
      rw [hx] at sX
      obtain ⟨b,s,bG⟩:=sX.DL
      rw [bG];intro h;cases h
     have here:∀S2,Agree (.wr (gT (.dq q j)::[])) (hp h) S2→∀{S':Hp} {pv:A},(S2.ob (dV q j)=some (.cl (.map (gI ka tk va tv es)))→dH P o ρ S2 S' pv)→dH P o ρ S2 S' pv:=fun S2 hA _ _ k=>dH.bg fun g w a hI hv=>by
      have sX:=hv x oz
      rw [hx] at sX
      obtain ⟨b,s,bG⟩:=sX.DL
      have ha:=hA (dV q j) (bO (r:=q) (j:=j) hq (.head _))
      exact k (dI g S2 w b s hI ha.1 ha.2 bG)
     have Rm:told ρ y (bM ka tk kx) x = .mp (.dq q j):=by rw [mG l6,hx]
     have conv:=fun {S S':Hp} {pv:A}=>dH.conv (P:=P) (o:=o) (ρ:=ρ) (ρ':=told ρ y (bM ka tk kx)) (S:=S) (S':=S') (pv:=pv) (fun x _ g v hv=>nD (fun g v hv=>iO pE hv) x g v hv)
     have hs:g7 E KT e.d (told ρ y (bM ka tk kx) y) (told ρ y (bM ka tk kx) y)=some (q0 tk kx kx):=by rw [eY];exact rU he h1.1 kx kx
     have hf:=jB (va:=va) (tv:=tv) he h1.1 kx es 0
     have main:∀p,CC (q0 tk kx) es 0=p→xw h q j ka tk va tv (match p with | some p=>Ib es p.1 | none=>es) (fun h'=>K .b8 h' (.wr [gB q]))=some r→Out P o ρ h K r:=fun p Bh hr=>by
      obtain ⟨h',k1,k2⟩:=rE hq hr
      refine ⟨_,_,_,k1,.put hd hX k2 xy (fun S2 hA=>here S2 hA fun dc=>?_)⟩
      rw [Bh] at hf
      rw [BQ]
      exact conv (pk (X:=.dq q j) hE ho h0 hT he h1.2 hs Rm dc (by rw [eY];exact hf))
     rcases gF hr with ⟨e1,hr⟩ | ⟨p,e1,hr⟩
     ·exact main none e1 hr
     ·exact main (some p) e1 hr
    ·cases hr
   ·cases hr
  ·cases hr
 ·cases hr
def vt:List (Nat×Nat)→Nat→Option Nat
 | [],_=>none
 | (t,r)::l,T=>bif Nat.beq t T then some r else vt l T
def Af (h:H) (q:Nat) (t:Ty) (x:t.T) (k:Nat→H→Option β):Option β:=bif tV h (gB q) then none else match bl h.rg q with
 | some ⟨_,.box t',c⟩=>match eG t t' x with
  | some x'=>bif Nat.blt q 64 then k (len (α:=t'.T) c) { h with rg:=hO h.rg q (.box t') (cat (α:=t'.T) c [x']) } else none
  | none=>none
 | _=>none
theorem tF {q:Nat} {t:Ty} {x:t.T} {k:Nat→H→Option β} (hr:Af h q t x k=some r):∃h' j,k j h'=some r∧q<64∧(hp h).fr (dV q j)∧hp h'=app [.new (dV q j) (.cells (aA t x))] (hp h):=by
 obtain ⟨_,hr⟩:=hC hr
 split at hr
 ·rename_i rr t' c hf
  split at hr
  ·rename_i x' hx
   obtain ⟨e,hx⟩:=bY hx
   subst e
   obtain rfl:x=x':=hx
   obtain ⟨h1,hr⟩:=af hr
   have h3:q<64:=aU h1
   refine ⟨_,_,hr,h3,?_,?_⟩
   ·rw [fj.2,eU h3 hf];exact Nat.le_refl _
   ·exact mZ (k:=.box t) (c:=cat (α:=t.T) c [x]) (n:=List.length (α:=t.T) c) h3 hf rfl (mW (α:=t.T) c _) (fun j=>o6 (c:=c) (x:=x) j)
  ·cases hr
 ·cases hr
theorem V.Dg {g:G} {q j:Nat} {v:Value} (hv:V g (.ptr (dV q j) 0) v):V g (.tp (.dq q j) []) v:=by
 cases hv with
 | ptr _ _ b s hb=>exact .tp (.dq q j) [] b s hb trivial
def Jq (E:Env) (hm:List (Nat×Nat)) (T:Nat) (h:H) (K:A→H→Fp→Option β):Option β:=match vt hm T with
 | some q=>match bZ E.cS T with
  | some e=>match e.t with
   | some t=>Af h q t t.cg (fun j h'=>K (.tp (.dq q j) []) h' (.wr [gB q]))
   | none=>none
  | none=>none
 | none=>Jr E T h K
theorem EP (hE:bL P E) {hm:List (Nat×Nat)} {T:Nat} (ho:o.op = .alloc T) (hr:Jq E hm T h K=some r):Out P o ρ h K r:=by
 have hd:∀c,o.op≠.defer c:=by rw [ho];intro c e;cases e
 unfold Jq at hr
 split at hr
 ·rename_i q _
  split at hr
  ·rename_i e ht
   have hk:=hE.cS _ _ ht
   obtain ⟨i,t1,t2,t3,t4,t5,t6⟩:=hk.ti
   split at hr
   ·rename_i t uM
    obtain ⟨h',j,k1,hq,hf,hh⟩:=tF hr
    exact ⟨_,_,_,k1,Step.y3 (.of _ hh rfl (fun u hu=>by rcases zF.1 hu with rfl;exact bO (r:=q) (j:=j) hq (.head _)) (fun S2 hA=>mo ho t1 t2 (hk.tz t uM) ((hA _ (bO (r:=q) (j:=j) hq (.head _))).2.2 hf)) hd) (fun g v hv=>hv.Dg)⟩
   ·cases hr
  ·cases hr
 ·exact ER hE ho hr
def Jj (E:Env) (hm:List (Nat×Nat)) (T:Nat) (px:A) (h:H) (K:A→H→Fp→Option β):Option β:=match vt hm T with
 | some q=>match bZ E.cS T,px.cells with
  | some e,some ps=>match e.t with
   | some t=>match fixC 64 t ps h with
    | some (rG,h1,T1)=>match nv t rG with
     | some x=>Af h1 q t x (fun j h'=>K (.tp (.dq q j) []) h' (.wr (gB q::T1)))
     | none=>none
    | none=>none
   | none=>none
  | _,_=>none
 | none=>B9 E T px h K
theorem Step.Tc {T1:List Nat} {h1 h2:H} {us:List Up} {x:Ob} {pv:A} {q j:Nat} (c1:hp h1=app us (hp h)) (c2:∀u∈us,aF (.wr T1) u.id=true) (hq:q<64) (hf:(hp h1).fr (dV q j)) (hh:hp h2=app [.new (dV q j) x] (hp h1)) (hd:∀c,o.op≠.defer c)
  (k:∀S2 g w a,Agree (.wr T1) (hp h) S2→(app us S2).fr (dV q j)→Inv g S2 w→(∀x∈o.op.operands,V g (ρ x) (a.eval x))→qC P o S2 ((app us S2).new (dV q j) x) pv g w a):Step P o ρ h h2 (.wr (gB q::T1)) pv:=
 .of (us++[.new (dV q j) x]) (by rw [gJ,←c1,hh]) rfl (fun u hu=>by
  rcases zX.1 hu with hu | hu
  ·exact dJ (fun i hi=>.tail _ hi) (c2 u hu)
  ·rcases zF.1 hu with rfl;exact bO (r:=q) (j:=j) hq (.head _)) (fun S2 hA g w a next Q hI hv K'=>by
  have mB:(app us S2).fr (dV q j):=by
   have:=Agree.app us hA
   rw [←c1] at this
   exact (this (dV q j) (bO hq (.head _))).2.2 hf
  have e:=gJ us [.new (dV q j) x] S2
  rw [e] at K'
  exact k S2 g w a (hA.mono fun i hi=>.tail _ hi) mB hI hv next Q K') hd
theorem EF {S:Hp} {T:TypeId} {x:Operand} {qs:List A} {q:Nat} {g:G} {w:World} {a:Act} (ho:o.op = .box T x) (hI:Inv g S w) (e2:Vs g qs (a.eval x).cells.toList) (hf:S.fr q):qC P o S (S.new q (.cells qs)) (.ptr q 0) g w a:=by
 intro next Q K
 obtain ⟨h1,h2⟩:=hI.kC hf (cs:=qs) (vs:=(a.eval x).cells) T (by have:=e2.1;simp at this ⊢;omega) e2.all
 unfold Oper.wp
 simp only [execOp,ho,Instr.box,Sem.run_bind,Result.andThen_ok,Sem.run_pure,newVar,newRow,run_newObj]
 exact K _ _ _ (.ptr _ _ w.heap.size _ bU) h1 h2
theorem EC {hm:List (Nat×Nat)} {T:Nat} {x:Operand} (ho:o.op = .box T x) (hr:Jj E hm T (ρ x) h K=some r):Out P o ρ h K r:=by
 have hd:∀c,o.op≠.defer c:=by rw [ho];intro c e;cases e
 unfold Jj at hr
 split at hr
 ·rename_i q _
  split at hr
  ·rename_i e ps ht qy
   split at hr
   ·rename_i t uM
    split at hr
    ·rename_i rG h1 T1 hf
     split at hr
     ·rename_i y hy
      obtain ⟨us,c1,c2,c3⟩:=na _ _ _ _ _ _ _ hf
      obtain ⟨h',j,k1,hq,mB,hh⟩:=tF hr
      refine ⟨_,_,_,k1,Step.y3 (pv:=.ptr (dV q j) 0) (.Tc c1 c2 hq mB hh hd (fun S2 g w a hA hf hI hv=>?_)) (fun g v hv=>?_)⟩
      ·obtain ⟨g1,q1,q2,q3⟩:=c3 g S2 w _ hI hA ((hv x (by simp [ho,Op.operands])).cells qy)
       refine qC.pre ?_ q2
       exact EF ho q1 ((hJ t rG y hy).2 _ q3) hf
      ·cases hv with
       | ptr _ _ b s h0=>exact .tp (.dq q j) [] b s h0 trivial
     ·cases hr
    ·cases hr
   ·cases hr
  ·cases hr
 ·exact B8 ho hr
end
end
section
variable {P:Program} {E:Env} {o:Oper} {ρ:Operand→A} {h:H} {β:Type} {K:A→H→Fp→Option β} {r:β}
def UA (E:Env) (T f:Nat) (px:A) (h:H) (K:A→H→Fp→Option β):Option β:=match px with
 | .agg cs=>match bZ E.cS T with
  | some ⟨.struct fs,_,_,_,_,_,_⟩=>match fs[f]? with
   | some fd=>match bZ E.cS fd.type with
    | some e=>bif iy e.d then K (.agg ((cs.drop fd.offset).take e.size)) h .no else (match (cs.drop fd.offset).take e.size with
     | [p]=>ze p (fun v=>K v h .no)
     | _=>none)
    | none=>none
   | none=>none
  | _=>none
 | _=>none
theorem V.QP {g:G} {cs:List A} {u:Value} (h:V g (.agg cs) u):∃vs,u = .agg vs∧Vs g cs vs.toList:=by
 cases h with
 | agg _ vs hl h1 hh=>
  refine ⟨vs,rfl,by simpa using hl,fun j c x a b=>?_⟩
  have b':vs[j]?=some x:=by simpa using b
  exact ⟨hh j c x a b',h1 x (zG b)⟩
theorem II (hE:bL P E) {T f:Nat} {x:Operand} (ho:o.op = .field T x f) (hr:UA E T f (ρ x) h K=some r):Out P o ρ h K r:=by
 have hd:∀c,o.op≠.defer c:=by rw [ho];intro c e;cases e
 unfold UA at hr
 split at hr
 ·rename_i cs hx
  split at hr
  ·rename_i fs _ _ _ _ t _ ht
   split at hr
   ·rename_i fd hf
    split at hr
    ·rename_i e he
     have key:∀{S2:Hp} {v:A},(∀g xs,Vs g ((cs.drop fd.offset).take e.size) xs→∃u,valOf e.d xs u∧V g v u)→dH P o ρ S2 S2 v:=fun {S2 v} hk=>.value fun g w a _ hv=>by
      have e1:=hv x (by simp [ho,Op.operands])
      rw [hx] at e1
      obtain ⟨vs,e2,e3⟩:=e1.QP
      obtain ⟨u,h1,h2⟩:=hk g _ (e3.part fd.offset e.size)
      refine ⟨u,?_,h2⟩
      simp only [execOp,ho,e2,Sem.run_bind,Instr.field,run_underlying (hE.cS _ _ ht).u,Result.andThen_ok,hf,asAgg,Sem.run_pure,mM (hE.cS _ _ he) h1 w]
     cases ha:iy e.d with
     | true=>
      rw [ha] at hr
      refine .pure hr (fun S2=>key fun g xs ya=>⟨.agg xs.toArray,by simp [valOf,ha],?_⟩) hd
      exact .agg _ _ (by simpa using ya.1) (fun v hm=>by
       obtain ⟨j,hj⟩:=List.getElem?_of_mem hm
       simp only [List.toList_toArray] at hj
       have fp:j<((cs.drop fd.offset).take e.size).length:=by
        have:=(zB.1 hj).1;have:=ya.1;omega
       exact (ya.2 j _ v (zD fp) hj).2) (fun i c y h1 h2=>(ya.2 i c y h1 (by simpa using h2)).1)
     | false=>
      rw [ha] at hr
      simp only [cond_false] at hr
      split at hr
      ·rename_i p hp
       refine .sp hr (.pure (fun S2=>key fun g xs ya=>?_) hd)
       rw [hp] at ya
       obtain ⟨z,e1,e2⟩:=ya.single
       exact ⟨z,by simp [valOf,ha,e1],e2⟩
      ·cases hr
    ·cases hr
   ·cases hr
  ·cases hr
 ·cases hr
def isNil (py:A):Bool:=match py with
 | .v (.slice none 0 0)=>true
 | _=>false
theorem A8 {py:A} (h:isNil py=true):py = .v (.slice none 0 0):=by
 unfold isNil at h
 split at h
 ·rfl
 ·cases h
def BO (E:Env) (op:BinOp) (T:Nat) (X:Ref) (z:Nat) (h:H) (K:A→H→Fp→Option β):Option β:=bif isEq op then (match bZ E.cS T with
  | some e=>match e.d with
   | .slice _=>hP h X (fun t l=>bif Nat.beq z t.size && Nat.blt 0 z then gd (bx 0 (len l)) (K (.v (.bool (xU op false))) h (.rd [gT X])) else none)
   | _=>none
  | none=>none) else none
def IU (E:Env) (op:BinOp) (T:Nat) (px py:A) (h:H) (K:A→H→Fp→Option β):Option β:=match px with
 | .tw X z=>bif isNil py then BO E op T X z h K else Ca E op T px py h K
 | .os r z o=>bif isNil py then opt o none (fun j=>BO E op T (.dq r j) z h K) else Ca E op T px py h K
 | _=>Ca E op T px py h K
theorem Dy {S:Hp} {op:BinOp} {T T' E:TypeId} {x y:Operand} (ho:o.op = .binOp op T x y T') (hT:P.underlying T=some (.slice E)) (oA:op = .eql∨op = .neq)
  (hy:ρ y = .v (.slice none 0 0)) (hx:∀g w v,Inv g S w→V g (ρ x) v→∃a n c,v = .slice (some a) n c):dH P o ρ S S (.v (.bool (if op = .eql then false else !false))):=
 .value fun g w a hI hv=>by
  have e2:=hv y (by simp [ho,Op.operands])
  rw [hy] at e2
  have e2:=e2.fc
  obtain ⟨A,n,c,h1⟩:=hx g w _ hI (hv x (by simp [ho,Op.operands]))
  have dA:=v_ (P:=P) w hT (some A) n c
  refine ⟨.bool (if op = .eql then false else !false),?_,.v _⟩
  have iW:(eqGuard op T x y (.slice (some A) n c) (.slice none 0 0)).run P w = .ok () w:=by
   rcases oA with rfl | rfl<;>rfl
  rcases oA with rfl | rfl
  ·have hb:(binOp .eql T (.slice (some A) n c) (.slice none 0 0)).run P w = .ok (.bool false) w:=by
    simp only [binOp];simp [Op.equal,Op.maxDepth,dA]
   simp only [execOp,ho,h1,e2,Sem.run_bind,iW,Result.andThen_ok,if_true,hb,Sem.run_pure]
  ·have hb:(binOp .neq T (.slice (some A) n c) (.slice none 0 0)).run P w = .ok (.bool (!false)) w:=by
    simp only [binOp];simp [Op.equal,Op.maxDepth,dA]
   simp only [execOp,ho,h1,e2,Sem.run_bind,iW,Result.andThen_ok,hb,Sem.run_pure]
   rfl
theorem wY (hE:bL P E) {op:BinOp} {T T':TypeId} {x y:Operand} {X:Ref} {z:Nat} (ho:o.op = .binOp op T x y T') (hn:isNil (ρ y)=true) (hx:∀g v,V g (ρ x) v→V g (.tw X z) v) (hr:BO E op T X z h K=some r):Out P o ρ h K r:=by
 have hd:∀c,o.op≠.defer c:=by rw [ho];intro c e;cases e
 have hy:=A8 hn
 unfold BO at hr
 obtain ⟨hq,hr⟩:=af hr
 split at hr
 ·rename_i e ht
  split at hr
  ·rename_i el yP
   obtain ⟨t,l,hr,hX,dI⟩:=dz hr
   obtain ⟨hz,hr⟩:=af hr
   simp only [zC] at hz
   have Og:=beq_eq hz.1
   have h0:=aU hz.2
   obtain ⟨hl,hr⟩:=bp hr
   have hl:0<l.length:=hl
   refine .read _ hr (fun S2 hA=>?_) hd
   have dc:=(hA _ (bB hX (.head _))).1.trans dI
   rw [mU _ hq]
   refine Dy ho (by rw [(hE.cS _ _ ht).u,yP]) (kj hq) hy (fun g w v hI hv=>?_)
   have hv:=hx _ _ hv
   rw [Og] at hv
   rcases hv.oR hI (by omega) dc with ⟨ad,_,rfl,rfl⟩ | ⟨b,s,cap,d,_,rfl,_⟩
   ·cases hl
   ·exact ⟨_,_,_,rfl⟩
  ·cases hr
 ·cases hr
theorem Er (hE:bL P E) {op:BinOp} {T T':TypeId} {x y:Operand} (ho:o.op = .binOp op T x y T') (hr:IU E op T (ρ x) (ρ y) h K=some r):Out P o ρ h K r:=by
 unfold IU at hr
 split at hr
 ·rename_i X z hx
  cases hn:isNil (ρ y) with
  | true=>
   rw [hn] at hr
   exact wY hE ho hn (fun g v hv=>by rwa [hx] at hv) hr
  | false=>
   rw [hn] at hr
   exact sI hE ho hr
 ·rename_i ri z oo hx
  cases hn:isNil (ρ y) with
  | true=>
   rw [hn] at hr
   rcases gF (show opt oo none (fun j=>BO E op T (.dq ri j) z h K)=some r from hr) with ⟨_,h2⟩ | ⟨j,h1,h2⟩
   ·cases h2
   ·exact wY hE ho hn (fun g v hv=>by
     rw [hx] at hv
     cases hv with
     | os _ _ _ _ _ k1=>exact k1 j h1) h2
  | false=>
   rw [hn] at hr
   exact sI hE ho hr
 ·exact sI hE ho hr
end
section
open Go.RowKit
section
variable {P:Program} {E:Env} {o:Oper} {ρ:Operand→A} {h:H} {β:Type} {K:A→H→Fp→Option β} {r:β}
structure ra (P:Program) (f:FuncId) (aa:List A) (h h':H) (T:Fp) (pv:A):Prop where
 out:∀i,aF T i=false→(hp h').ob i=(hp h).ob i∧((hp h').fr i↔(hp h).fr i)
 rd:∀i,wt T i=false→(hp h').ob i=(hp h).ob i∧((hp h').fr i↔(hp h).fr i)
 fn:sS P f
 ok:∀S2,Agree T (hp h) S2→PC P f aa S2 (gL T (hp h') S2) pv
def RC (P:Program) (y:A) (aa:List A) (S S':Hp) (r:A):Prop:=
 ∀g w u (vs:List Value),Inv g S w→V g y u→aa.length=vs.length→(∀(i:Nat) (p:A) (v:Value),aa[i]?=some p→vs[i]?=some v→V g p v) →
  ∃(b:Nat) (rr:Loop),u = .func (.yield b) #[] #[]∧w.heap[b]?=some (.loop rr)∧rr.params.size=vs.length ∧
   RoundIn (FR none) 0 P b rr.fn ((rr.params.zip vs.toArray).foldl (fun tmps (t,a)=>tmps.setIfInBounds t a) rr.tmps) rr.assign rr.body w (fun e w'=>∃v g',e = .returned v∧V g' r v∧Inv g' S' w'∧Ext S g w S' g' w')
structure Hk (P:Program) (y:A) (aa:List A) (h h':H) (T:Fp) (pv:A):Prop where
 out:∀i,aF T i=false→(hp h').ob i=(hp h).ob i∧((hp h').fr i↔(hp h).fr i)
 rd:∀i,wt T i=false→(hp h').ob i=(hp h).ob i∧((hp h').fr i↔(hp h).fr i)
 ok:∀S2,Agree T (hp h) S2→RC P y aa S2 (gL T (hp h') S2) pv
theorem xN {y:A} {x:Operand} {xs:Array Operand} {ts:Array TypeId} {S S':Hp} {r:A} (ho:o.op = .call { callee:=.value x,args:=xs,argTypes:=ts }) (hx:ρ x=y) (h:RC P y (xs.toList.map ρ) S S' r):yF P o ρ S S' r:=by
 intro ro g w a next Q hI hv K
 have e1:=hx▸hv x (by simp [ho,Op.operands,Call.operands])
 obtain ⟨b,rr,hu,h1,h2,h3⟩:=h g w (a.eval x) (xs.toList.map a.eval) hI e1 (by simp) (fun i p v k1 k2=>by
  simp only [zL,Option.map_eq_some_iff,Array.getElem?_toList] at k1 k2
  obtain ⟨y,hy,rfl⟩:=k1
  obtain ⟨y',vq,rfl⟩:=k2
  rw [hy] at vq
  obtain rfl:=Option.some.inj vq
  exact hv y (by simp only [ho,Op.operands,Call.operands];exact Array.mem_append.2 (.inr (Array.mem_of_getElem? hy))))
 refine ⟨fun f _=>trivial,?_⟩
 rw [Oper.semAt_eq _ _ _ (by rw [ho];intro c h;cases h)]
 have ea : #[]++Array.map a.eval xs=(xs.toList.map a.eval).toArray:=by apply Array.ext';simp
 have e:(execOp a.eval o).run P w = .ok (.round b rr.fn ((rr.params.zip (xs.toList.map a.eval).toArray).foldl (fun tmps (t,a)=>tmps.setIfInBounds t a) rr.tmps) rr.assign rr.body) w:=by
  simp only [execOp,ho,resolve,hu,Deferred.ofValue,pure_bind,invoke]
  rw [ea]
  exact run_yield h1 (by simp [h2])
 rw [e]
 refine ⟨fun h=>by simp [FR,Fence.wide] at h,RoundIn.mono (F:=FR ro) h3 ?_⟩
 rintro e w' ⟨v,g',rfl,k1,k2,k3⟩
 exact K v g' w' k1 k2 k3
structure Cx where
 call:(β:Type)→FuncId→List A→H→(A→H→Fp→Option β)→Option β
 hm:List (Nat×Nat)
 qd:(β:Type)→A→List A→H→(A→H→Fp→Option β)→Option β
structure j9 (P:Program) (cx:Cx):Prop where
 call:∀(β:Type) (f:FuncId) (aa:List A) (h:H) (K:A→H→Fp→Option β) (r:β),cx.call β f aa h K=some r→∃pv h' T,K pv h' T=some r∧ra P f aa h h' T pv
 qd:∀(β:Type) (y:A) (aa:List A) (h:H) (K:A→H→Fp→Option β) (r:β),cx.qd β y aa h K=some r→∃pv h' T,K pv h' T=some r∧Hk P y aa h h' T pv
def B7 (cx:Cx) (px:A) (aa:List A) (h:H) (K:A→H→Fp→Option β):Option β:=match px with
 | .fn f fi ca=>cx.call β f (fi++aa++ca) h K
 | .qd _ _ _ _ _ _ _=>cx.qd β px aa h K
 | _=>none
theorem B6 {cx:Cx} (hx:j9 P cx) {x:Operand} {xs:Array Operand} {ts:Array TypeId} (ho:o.op = .call { callee:=.value x,args:=xs,argTypes:=ts }) (hr:B7 cx (ρ x) (xs.toList.map ρ) h K=some r):Out P o ρ h K r:=by
 have hd:∀c,o.op≠.defer c:=by rw [ho];intro c e;cases e
 unfold B7 at hr
 split at hr
 ·rename_i f fi ca Bh
  obtain ⟨pv,h',T,k1,k2⟩:=hx.call β f _ h K r hr
  exact ⟨pv,h',T,k1,⟨k2.out,k2.rd,fun S2 hA=>(xL ho k2.fn Bh (k2.ok S2 hA)).GG hd⟩⟩
 ·rename_i Bh
  obtain ⟨pv,h',T,k1,k2⟩:=hx.qd β _ _ h K r hr
  exact ⟨pv,h',T,k1,⟨k2.out,k2.rd,fun S2 hA=>xN ho Bh (Bh▸k2.ok S2 hA)⟩⟩
 ·cases hr
def v8:Operand→Operand→Bool
 | .tmp i,.tmp j=>Nat.beq i j
 | .const (.int .i64 (.ofNat a)),.const (.int .i64 (.ofNat b))=>Nat.beq a b
 | _,_=>false
theorem tj {x y:Operand} (h:v8 x y=true):x=y:=by
 unfold v8 at h
 split at h
 ·rw [beq_eq h]
 ·rw [beq_eq h]
 ·cases h
def Rc:Operand→Operand→Bool
 | .tmp i,.tmp j=>!(Nat.beq i j)
 | .tmp _,.const _=>true
 | .const _,.tmp _=>true
 | _,_=>false
theorem AH {x y:Operand} (h:Rc x y=true):y≠x:=by
 rintro rfl
 cases y<;>simp [Rc] at h
def tm:Option Operand→Option Operand→Bool
 | some x,some y=>v8 x y
 | _,_=>false
theorem zm {x y:Option Operand} (h:tm x y=true):x=y:=by
 unfold tm at h
 split at h
 ·rw [tj h]
 ·cases h
def Jm (E:Env) (b:Builtin) (xs:List Operand) (ts:List TypeId) (ρ:Operand→A) (h:H) (K:A→H→Fp→Option β):Option β:=match b,xs,ts with
 | .append,[x,y],[T,T']=>bif Nat.beq T T' then Jp E T (ρ x) (ρ y) h K else none
 | .len,[x],[T]=>Ig E T (ρ x) h K
 | .min,[x,y],_=>JF false (ρ x) (ρ y) h K
 | .max,[x,y],_=>JF true (ρ x) (ρ y) h K
 | .copy,[x,y],[T,_]=>B2 E T (ρ x) (ρ y) h K
 | .clear,[x],[T]=>Jf E T (ρ x) h K
 | .delete,[x,y],T::_=>AM E T (ρ x) (ρ y) h K
 | _,_,_=>none
theorem EG (hE:bL P E) {b:Builtin} {xs:Array Operand} {ts:Array TypeId} (ho:o.op = .call { callee:=.builtin b,args:=xs,argTypes:=ts }) (hr:Jm E b xs.toList ts.toList ρ h K=some r):Out P o ρ h K r:=by
 obtain ⟨xs⟩:=xs
 obtain ⟨ts⟩:=ts
 simp only at hr
 unfold Jm at hr
 split at hr
 ·obtain ⟨hT,hk⟩:=af hr
  clear hr
  obtain rfl:=beq_eq hT
  exact EK hE ho hk
 ·exact DR hE ho hr
 ·exact DM ho hr
 ·exact DN ho hr
 ·exact B1 hE ho hr
 ·exact EA hE ho hr
 ·exact AL hE ho rfl hr
 ·cases hr
theorem yF.W2 {P:Program} {NX:Op} {ρ:Operand→A} {S S':Hp} {v:A} (hd:∀c,o.op≠.defer c) (l7:∀c,NX≠.defer c) (hs:∀x∈NX.operands,x∈o.op.operands) (he:∀(g:G) (a:Act),(∀x∈o.op.operands,V g (ρ x) (a.eval x))→execOp a.eval o=execOp a.eval { o with op:=NX }) (h:yF P { o with op:=NX } ρ S S' v):yF P o ρ S S' v:=by
 intro r g w a next Q hI hv K
 have h1:=h r g w a next Q hI (fun x hx=>hv x (hs x hx)) K
 refine ⟨fun f _=>trivial,?_⟩
 have h2:=h1.2
 rw [Oper.semAt_eq _ _ _ l7] at h2
 rw [Oper.semAt_eq _ _ _ hd,he g a hv]
 exact h2
def Ik (E:Env) (T:Nat) (X:Ref) (z:Nat) (lo hi mx:Option A) (h:H) (K:A→H→Fp→Option β):Option β:=match bZ E.cS T with
 | some ⟨.slice el,_,_,_,_,_,_⟩=>match bZ E.cS el with
  | some e=>hP h X (fun t x=>bif Nat.beq z e.size && Nat.beq z t.size && Nat.blt 0 z then yA lo 0 (fun l=>yA hi 0 (fun n=>yA mx 0 (fun m=>gd (bw l n) (gd (bw n m) (gd (bw m (len x)) (K .b8 h (.rd [gT X]))))))) else none)
  | none=>none
 | _=>none
theorem DW (hE:bL P E) {T:Nat} {X:Ref} {z:Nat} {x lo hi mx:Operand} (ho:o.op = .slice T x (some lo) (some hi) (some mx)) (hx:ρ x = .tw X z) (hr:Ik E T X z (some (ρ lo)) (some (ρ hi)) (some (ρ mx)) h K=some r):Out P o ρ h K r:=by
 have hd:∀c,o.op≠.defer c:=by rw [ho];intro c e;cases e
 unfold Ik at hr
 split at hr
 ·rename_i el _ _ _ _ _ _ ht
  have hT:=(hE.cS _ _ ht).u
  split at hr
  ·rename_i e he
   have hz:=(hE.cS _ _ he).ti.size
   obtain ⟨t,x',hr,hX,dI⟩:=dz hr
   obtain ⟨hq,hr⟩:=af hr
   simp only [zC] at hq
   have Om:=beq_eq hq.1.1
   have D4:=beq_eq hq.1.2
   have h0:=aU hq.2
   obtain ⟨l,hr,sh⟩:=jm (x:=some lo) hr
   obtain ⟨n,hr,si⟩:=jm (x:=some hi) hr
   obtain ⟨m,hr,Ru⟩:=jm (x:=some mx) hr
   obtain ⟨h1,hr⟩:=bp hr
   obtain ⟨h2,hr⟩:=bp hr
   obtain ⟨h3,hr⟩:=bp hr
   have h1:l≤n:=h1
   have h2:n≤m:=h2
   have h3:m≤x'.length:=h3
   refine .read [gT X] hr (fun S2 hA=>pg ho hT hz sh si Ru h1 h2 (fun g w v hI hv=>?_)) hd
   have dc:=(hA _ (bB hX (.head _))).1.trans dI
   rw [hx,D4] at hv
   obtain ⟨ad,cap,k1,k2,_,_⟩:=hv.FU (lo:=l) (hi:=n) hI (by omega) dc h1 (by omega)
   exact ⟨ad,_,cap,k1,by omega,.b8 _⟩
  ·cases hr
 ·cases hr
def Of:A→Bool
 | .tw _ _=>true
 | _=>false
def Hx (E:Env) (T:Nat) (px:A) (lo hi mx:Option A) (same:Bool) (h:H) (K:A→H→Fp→Option β):Option β:=bif same then zg E T px lo hi mx true h K else bif Of px && lo.isSome && mx.isSome && hi.isSome then (match px with
 | .tw X z=>Ik E T X z lo hi mx h K
 | _=>none) else (match mx,hi with
 | some (.v (.int k m)),some (.v (.int k' n))=>if k=k' then gd (D0 m n) (zg E T px lo hi hi true h K) else none
 | mx,hi=>zg E T px lo hi mx false h K)
theorem C0 (hE:bL P E) {T:Nat} {x:Operand} {lo hi mx:Option Operand} (ho:o.op = .slice T x lo hi mx) (hr:Hx E T (ρ x) (lo.map ρ) (hi.map ρ) (mx.map ρ) (tm mx hi) h K=some r):Out P o ρ h K r:=by
 unfold Hx at hr
 cases hb:tm mx hi with
 | true=>rw [hb] at hr;exact rm hE ho (fun _=>zm hb) hr
 | false=>
  rw [hb] at hr
  simp only [cond_false] at hr
  cases ht:(Of (ρ x) && (lo.map ρ).isSome && (mx.map ρ).isSome && (hi.map ρ).isSome) with
  | true=>
   rw [ht] at hr
   simp only [cond_true] at hr
   simp only [zC] at ht
   obtain ⟨lo',rfl⟩:=isSome_map ht.1.1.2
   obtain ⟨mx',rfl⟩:=isSome_map ht.1.2
   obtain ⟨JR,rfl⟩:=isSome_map ht.2
   split at hr
   ·rename_i X z hx
    exact DW hE ho hx hr
   ·cases hr
  | false=>
  rw [ht] at hr
  simp only [cond_false] at hr
  split at hr
  ·rename_i k m k' n hm hn
   split at hr
   ·rename_i hk
    subst hk
    obtain ⟨he,Ol⟩:=bp hr
    clear hr
    have he:m=n:=he
    subst he
    cases hi with
    | none=>cases hn
    | some hi=>
    cases mx with
    | none=>cases hm
    | some mx=>
    have hn:ρ hi = .v (.int k m):=Option.some.inj hn
    have hm:ρ mx = .v (.int k m):=Option.some.inj hm
    obtain ⟨pv,h',T',k1,k2⟩:=rm (o:={ o with op:=.slice T x lo (some hi) (some hi) }) hE rfl (fun _=>rfl) Ol
    refine ⟨pv,h',T',k1,k2.out,k2.rd,fun S2 hA=>yF.W2 (NX:=.slice T x lo (some hi) (some hi)) (by rw [ho];intro c e;cases e) (fun c e=>by cases e) (fun y hy=>?_) (fun g a hv=>?_) (k2.ok S2 hA)⟩
    ·rw [ho]
     simp only [Op.operands,Array.mem_append] at hy ⊢
     rcases hy with (hy | hy) | hy
     ·exact .inl (.inl hy)
     ·exact .inl (.inr hy)
     ·exact .inl (.inr hy)
    ·have e1:=hv mx (by rw [ho];simp [Op.operands])
     have e2:=hv hi (by rw [ho];simp [Op.operands])
     rw [hm] at e1
     rw [hn] at e2
     have e3:=e1.fc.trans e2.fc.symm
     simp only [execOp,ho,Option.map_some,e3]
   ·cases hr
  ·exact rm hE ho (fun h=>by cases h) hr
def S9 (E:Env) (cx:Cx) (op:Op) (ρ:Operand→A) (h:H) (K:A→H→Fp→Option β):Option β:=match op with
 | .move x=>Zt (ρ x) h K
 | .assign x=>Zt (ρ x) h K
 | .pick c x y=>Am (ρ c) (ρ x) (ρ y) h K
 | .extract x i=>IT (ρ x) i h K
 | .binOp op T x y _=>IU E op T (ρ x) (ρ y) h K
 | .unOp op _ x=>RS op (ρ x) h K
 | .convert s d x=>Wq E s d (ρ x) h K
 | .nilCheck x=>N2 (ρ x) h K
 | .fieldAddr T x f=>IN E T f (ρ x) h K
 | .field T x f=>UA E T f (ρ x) h K
 | .indexAddr T x y=>Tp E T (ρ x) y (ρ y) h K
 | .load T x=>Ii E T (ρ x) h K
 | .store T x y=>SS E T (ρ x) (ρ y) h K
 | .alloc T=>Jq E cx.hm T h K
 | .box T x=>Jj E cx.hm T (ρ x) h K
 | .build T ps=>Jn E T ρ ps.toList h K
 | .buildSlice T n ps=>Jk E T n ρ ps.toList h K
 | .makeSlice T x y=>Te E T (v8 x y) (ρ x) h K
 | .slice T x lo hi mx=>Hx E T (ρ x) (lo.map ρ) (hi.map ρ) (mx.map ρ) (tm mx hi) h K
 | .makeFunc (.func f) fi ca=>N6 f (fi.toList.map ρ) (ca.toList.map ρ) h K
 | .makeMap _ none=>N5 h K
 | .lookup T x y ok=>Ie E T ok (ρ x) (ρ y) h K
 | .mapUpdate T x y z=>wA E T false (Rc y z) (ρ x) (ρ y) (ρ z) h K
 | .insert T x y z=>wA E T true (Rc y z) (ρ x) (ρ y) (ρ z) h K
 | .call c=>match c.callee with
  | .value x=>B7 cx (ρ x) (c.args.toList.map ρ) h K
  | .builtin b=>Jm E b c.args.toList c.argTypes.toList ρ h K
  | _=>none
 | _=>none
theorem H5 (hE:bL P E) {cx:Cx} (hx:j9 P cx) (hr:S9 E cx o.op ρ h K=some r):Out P o ρ h K r:=by
 generalize ho:o.op=op at hr
 have nd:∀{op:Op},o.op=op→(∀c,op≠.defer c)→∀c,o.op≠.defer c:=fun e k=>by rw [e];exact k
 unfold S9 at hr
 split at hr
 ·exact .pure hr (fun S2=>tM ho) (nd ho (fun c e=>by cases e))
 ·exact .pure hr (fun S2=>vd ho) (nd ho (fun c e=>by cases e))
 ·exact Al ho hr
 ·exact Ep ho hr
 ·exact Er hE ho hr
 ·exact Ht ho hr
 ·exact I5 hE ho hr
 ·exact DJ ho hr
 ·exact Ei hE ho hr
 ·exact II hE ho hr
 ·exact Il hE ho hr
 ·exact Ih hE ho hr
 ·exact Hw hE ho hr
 ·exact EP hE ho hr
 ·exact EC ho hr
 ·exact EH hE ho hr
 ·exact ED hE ho hr
 ·exact Ia hE ho tj hr
 ·exact C0 hE ho hr
 ·exact DP ho hr
 ·exact DO ho hr
 ·exact DQ hE ho hr
 ·exact tR hE AH (.inl ⟨rfl,ho⟩) hr
 ·exact tR hE AH (.inr ⟨rfl,ho⟩) hr
 ·rename_i c
  obtain ⟨cal,xs,ts⟩:=c
  simp only at hr
  split at hr
  ·exact B6 hx ho hr
  ·exact EG hE ho hr
  ·cases hr
 ·cases hr
end
end
section
open Go.RowKit
def Fp.cat (T U:Fp):Fp:=⟨T.all || U.all,T.rs++U.rs,T.w || U.w,T.ws++U.ws⟩
theorem gS (T U:Fp) (i:Nat):aF (T.cat U) i=(aF T i || aF U i):=by
 unfold aF Fp.cat
 simp only [List.any_append]
 cases T.all<;>cases U.all<;>cases T.rs.any (Nat.beq (res i))<;>cases U.rs.any (Nat.beq (res i))<;>rfl
theorem oN {T U:Fp} {i:Nat} (h:wt (T.cat U) i=false):wt T i=false∧wt U i=false:=by
 have h:((T.w || U.w) && (T.ws++U.ws).any (Nat.beq (res i)))=false:=h
 show (T.w && T.ws.any (Nat.beq (res i)))=false∧(U.w && U.ws.any (Nat.beq (res i)))=false
 rw [List.any_append] at h
 generalize T.ws.any (Nat.beq (res i))=a at h ⊢
 generalize U.ws.any (Nat.beq (res i))=b at h ⊢
 generalize T.w=c at h ⊢
 generalize U.w=d at h ⊢
 revert h
 cases a<;>cases b<;>cases c<;>cases d<;>decide
theorem Fp.gW (T U V:Fp):(T.cat U).cat V=T.cat (U.cat V):=by
 unfold Fp.cat
 simp [Bool.or_assoc]
theorem Fp.nO (T:Fp):Fp.no.cat T=T:=by cases T;rfl
theorem Fp.nY (T:Fp):T.cat .no=T:=by cases T;simp [Fp.cat,Fp.no]
structure lV (h h':H) (T:Fp):Prop where
 out:∀i,aF T i=false→(hp h').ob i=(hp h).ob i∧((hp h').fr i↔(hp h).fr i)
 rd:∀i,wt T i=false→(hp h').ob i=(hp h).ob i∧((hp h').fr i↔(hp h).fr i)
theorem lV.refl (h:H):lV h h .no:=⟨fun _ _=>⟨rfl,Iff.rfl⟩,fun _ _=>⟨rfl,Iff.rfl⟩⟩
theorem lV.trans {h h1 h2:H} {T U:Fp} (a:lV h h1 T) (b:lV h1 h2 U):lV h h2 (T.cat U) where
 out:=fun i hi=>by
  rw [gS,Bool.or_eq_false_iff] at hi
  have e1:=a.out i hi.1
  have e2:=b.out i hi.2
  exact ⟨e2.1.trans e1.1,e2.2.trans e1.2⟩
 rd:=fun i hi=>by
  obtain ⟨h1,h2⟩:=oN hi
  have e1:=a.rd i h1
  have e2:=b.rd i h2
  exact ⟨e2.1.trans e1.1,e2.2.trans e1.2⟩
theorem Agree.left {T U:Fp} {S S2:Hp} (h:Agree (T.cat U) S S2):Agree T S S2:=fun i hi=>h i (by rw [gS,hi];rfl)
theorem Agree.right {h h1:H} {T U:Fp} {S2:Hp} (f:lV h h1 T) (k:Agree (T.cat U) (hp h) S2):Agree U (hp h1) (gL T (hp h1) S2):=fun i hi=>by
 show (if aF T i=true then (hp h1).ob i else S2.ob i)=(hp h1).ob i∧((if aF T i=true then (hp h1).fr i else S2.fr i)↔(hp h1).fr i)
 cases ht:aF T i with
 | true=>exact ⟨if_pos rfl,by rw [if_pos rfl]⟩
 | false=>
  have e:=f.out i ht
  have k:=k i (by rw [gS,hi];simp)
  rw [if_neg (by simp),if_neg (by simp)]
  exact ⟨k.1.trans e.1.symm,k.2.trans e.2.symm⟩
theorem eL {h1 h2:H} {T U:Fp} {S2:Hp} (f:lV h1 h2 U):gL U (hp h2) (gL T (hp h1) S2)=gL (T.cat U) (hp h2) S2:=by
 refine Hp.ext' (fun i=>?_) (fun i=>?_)
 ·show (if aF U i=true then (hp h2).ob i else (if aF T i=true then (hp h1).ob i else S2.ob i))=(if aF (T.cat U) i=true then (hp h2).ob i else S2.ob i)
  rw [gS]
  cases hu:aF U i with
  | true=>simp
  | false=>
   cases ht:aF T i with
   | true=>simp [(f.out i hu).1]
   | false=>simp
 ·show (if aF U i=true then (hp h2).fr i else (if aF T i=true then (hp h1).fr i else S2.fr i))↔(if aF (T.cat U) i=true then (hp h2).fr i else S2.fr i)
  rw [gS]
  cases hu:aF U i with
  | true=>simp
  | false=>
   cases ht:aF T i with
   | true=>simp [(f.out i hu).2]
   | false=>simp
theorem oH {h h':H} {T:Fp} (f:lV h h' T):gL T (hp h') (hp h)=hp h':=Hp.ext' (fun i=>by
 show (if aF T i=true then _ else _)=_
 split
 ·rfl
 ·rename_i hi;exact (f.out i (by simpa using hi)).1.symm) (fun i=>by
 show (if aF T i=true then _ else _)↔_
 split
 ·exact Iff.rfl
 ·rename_i hi;exact (f.out i (by simpa using hi)).2.symm)
theorem nL (S S2:Hp):gL .no S S2=S2:=Hp.ext' (fun i=>rfl) (fun i=>Iff.rfl)
def dT (n:Nat) (F:Tr A) (ds:List Nat) (S:Hp):St:=⟨aT F.get,n,ds,S⟩
def wv (n:Nat) (F:Tr A):Operand→A
 | .tmp i=>bif Nat.blt i n then aT F.get i else .b8
 | .const v=>.v v
 | .global _=>.b8
 | .func f=>.fn f [] []
theorem vi {a b:Nat} (h:a<b):Nat.blt a b=true:=by simpa using h
theorem rN {a b:Nat} (h:¬a<b):Nat.blt a b=false:=by
 cases hx:Nat.blt a b with
 | false=>rfl
 | true=>exact absurd (aU hx) h
theorem nM (n:Nat) (F:Tr A) (ds:List Nat) (S:Hp):wv n F=(dT n F ds S).sW 0:=by
 funext x
 cases x with
 | tmp i=>
  show (bif Nat.blt i n then aT F.get i else .b8)=(if i<n then aT F.get i else .b8)
  by_cases h:i<n
  ·rw [if_pos h,vi h];rfl
  ·rw [if_neg h,rN h];rfl
 | _=>rfl
def Wb {β:Type} (v:Value) (k:Value→β):β:=match v with
 | .int a n=>k (.int a n)
 | .bool b=>k (.bool b)
 | v=>k v
theorem IQ {β:Type} (v:Value) (k:Value→β):Wb v k=k v:=by unfold Wb;split<;>rfl
def RH {β:Type} (p:A) (k:A→β):β:=match p with
 | .v x=>Wb x (fun x=>k (.v x))
 | .ptr o off=>k (.ptr o off)
 | .tp x π=>k (.tp x π)
 | .tw x z=>k (.tw x z)
 | .tl t f l=>k (.tl t f l)
 | .op r o=>k (.op r o)
 | p=>k p
theorem BM {β:Type} (p:A) (k:A→β):RH p k=k p:=by unfold RH;split<;>first | exact IQ _ _ | rfl
def IS {β:Type}:List A→(List A→β)→β
 | [],k=>k []
 | c::cs,k=>RH c (fun c=>IS cs (fun cs=>k (c::cs)))
theorem pN {β:Type}:∀(l:List A) (k:List A→β),IS l k=k l
 | [],_=>rfl
 | c::cs,k=>by unfold IS;rw [BM];exact pN cs _
def JU {β:Type} (p:A) (k:A→β):β:=match p with
 | .agg cs=>IS cs (fun cs=>k (.agg cs))
 | .il cs=>IS cs (fun cs=>k (.il cs))
 | .fn f fi ca=>IS fi (fun fi=>IS ca (fun ca=>k (.fn f fi ca)))
 | p=>RH p k
theorem vH {β:Type} (p:A) (k:A→β):JU p k=k p:=by
 unfold JU
 split
 ·exact pN _ _
 ·exact pN _ _
 ·rw [pN,pN]
 ·exact BM _ _
def rF {β:Type} (F:Tr A) (d:Option Nat) (p:A) (k:Tr A→Option β):Option β:=match d with
 | none=>k F
 | some d=>JU p (fun p=>dK F d (some p) k)
def Kp (l:List Nat) (F F':Tr A):Prop:=∀i,i∉l→aT F'.get i=aT F.get i
theorem Kp.refl (l:List Nat) (F:Tr A):Kp l F F:=fun _ _=>rfl
theorem Kp.trans {l k m:List Nat} {F F1 F2:Tr A} (a:Kp l F F1) (b:Kp k F1 F2) (hl:∀i∈l,i∈m) (hk:∀i∈k,i∈m):Kp m F F2:=fun i hi=>(b i (fun h=>hi (hk i h))).trans (a i (fun h=>hi (hl i h)))
theorem Kp.mono {l m:List Nat} {F F1:Tr A} (a:Kp l F F1) (hl:∀i∈l,i∈m):Kp m F F1:=fun i hi=>a i (fun h=>hi (hl i h))
theorem Kp.of {l:List Nat} {n:Nat} {F F':Tr A} (h:∀ds S,dT n F' ds S=dT n F ds S):Kp l F F':=fun i _=>congrFun (congrArg St.t (h [] ⟨fun _=>none,fun _=>False⟩)) i
theorem oG {β:Type} {F:Tr A} {d:Option Nat} {p:A} {k:Tr A→Option β} {r:β} (h:rF F d p k=some r):∃F',k F'=some r∧Kp d.toList F F'∧∀(n:Nat) (ds:List Nat) (S S':Hp),((dT n F ds S).put d p).to S'=dT n F' ds S':=by
 cases d with
 | none=>exact ⟨F,h,.refl _ F,fun n ds S S'=>rfl⟩
 | some d=>
  have h:JU p (fun p=>dK F d (some p) k)=some r:=h
  rw [vH] at h
  obtain ⟨_,F',k1,k2⟩:=bh h
  refine ⟨F',k1,fun i hi=>by
   simp only [aT,k2]
   rw [if_neg (fun e=>hi (by rw [e];exact .head _))],fun n ds S S'=>?_⟩
  have e:(fun i=>if i=d then p else aT F.get i)=aT F'.get:=by
   funext i
   simp only [aT,k2]
   by_cases hi:i=d
   ·rw [if_pos hi,if_pos hi]
   ·rw [if_neg hi,if_neg hi]
  simp only [St.put,St.to,dT,e]
def Ef {β:Type} (l0:List Oper) (n:Nat) (F:Tr A) (j:Nat) (want:Bool) (k:Tr A→Bool→Option β):Option β:=match (l0[j]?).bind (·.dst) with
 | some d=>match wv n F (.tmp d) with
  | .v (.bool b)=>br b (dK F d (some (.v (.bool true))) (fun F'=>k F' want)) (dK F d (some (.v (.bool false))) (fun F'=>k F' (!want)))
  | .un=>k F false
  | _=>none
 | none=>none
theorem wu {n:Nat} {F:Tr A} {d:Nat} {p:A} (h:wv n F (.tmp d)=p) (hp:p≠.b8):aT F.get d=p:=by
 have h:(bif Nat.blt d n then aT F.get d else .b8)=p:=h
 cases hb:Nat.blt d n with
 | true=>rw [hb] at h;exact h
 | false=>rw [hb] at h;exact absurd h.symm hp
theorem wU {β:Type} {l0:List Oper} {n:Nat} {F:Tr A} {j:Nat} {want:Bool} {k:Tr A→Bool→Option β} {r:β} (h:Ef l0 n F j want k=some r):∃F' b,k F' b=some r∧(∀ds S,dT n F' ds S=dT n F ds S)∧∀ds S,lf l0.toArray (dT n F ds S) j want=some b:=by
 unfold Ef at h
 split at h
 ·rename_i d hd
  have gv:∀(b:Bool) (ds:List Nat) (S:Hp),((match wv n F (.tmp d) with | .v (.bool b)=>some (b == want) | .un=>some false | _=>none):Option Bool)=some b→lf l0.toArray (dT n F ds S) j want=some b:=fun b ds S hb=>by
   unfold lf
   rw [List.getElem?_toArray,←nM,hd]
   exact hb
  split at h
  ·rename_i b hb
   have same:∀(F':Tr A) (c:Bool),b=c→F'.get=(fun m=>if m=d then some (.v (.bool c)) else F.get m)→∀ds S,dT n F' ds S=dT n F ds S:=fun F' c hc e ds S=>by
    have:aT F'.get=aT F.get:=by
     funext i
     by_cases hi:i=d
     ·subst hi
      rw [wu hb (by intro h;cases h),hc]
      unfold aT
      rw [e];simp
     ·unfold aT
      rw [e];simp [hi]
    unfold dT
    rw [this]
   rcases nZ h with ⟨rfl,h1⟩ | ⟨rfl,h1⟩
   ·obtain ⟨_,F',k1,k2⟩:=bh h1
    exact ⟨F',want,k1,same F' true rfl k2,fun ds S=>gv _ ds S (by rw [hb];cases want<;>rfl)⟩
   ·obtain ⟨_,F',k1,k2⟩:=bh h1
    exact ⟨F',!want,k1,same F' false rfl k2,fun ds S=>gv _ ds S (by rw [hb];cases want<;>rfl)⟩
  ·rename_i hb
   exact ⟨F,false,h,fun ds S=>rfl,fun ds S=>gv _ ds S (by rw [hb])⟩
  ·cases h
 ·cases h
def DG (p:A):A:=match p with
 | .op r (some j)=>.tp (.dq r j) []
 | .op _ none=>.v (.pointer none)
 | .os r z (some j)=>.tw (.dq r j) z
 | .os _ _ none=>.e0
 | .om r (some j)=>.mp (.dq r j)
 | .om _ none=>.v (.map none)
 | p=>p
theorem DF {p:A} {g:G} {v:Value} (h:V g p v):V g (DG p) v:=by
 unfold DG
 split
 ·cases h with | op _ _ _ _ h1=>exact h1 _ rfl
 ·cases h with | op _ _ _ h0 _=>rw [h0 rfl];exact .v _
 ·cases h with | os _ _ _ _ _ h1=>exact h1 _ rfl
 ·cases h with | os _ _ _ _ h0 _=>exact h0 rfl
 ·cases h with | om _ _ _ _ h1=>exact h1 _ rfl
 ·cases h with | om _ _ _ h0 _=>rw [h0 rfl];exact .v _
 ·exact h
def Zp (n:Nat) (F:Tr A) (l:List Nat) (x:Operand):A:=match x with
 | .tmp i=>bif l.any (Nat.beq i) then DG (wv n F (.tmp i)) else wv n F (.tmp i)
 | x=>wv n F x
theorem H3 {n:Nat} {F:Tr A} {l:List Nat} {x:Operand} {g:G} {v:Value} (h:V g (wv n F x) v):V g (Zp n F l x) v:=by
 cases x with
 | tmp i=>
  show V g (bif l.any (Nat.beq i) then DG (wv n F (.tmp i)) else wv n F (.tmp i)) v
  cases l.any (Nat.beq i) with
  | true=>exact DF h
  | false=>exact h
 | _=>exact h
def oU {β:Type}:List Nat→Tr A→(Tr A→Option β)→Option β
 | [],F,k=>k F
 | i::l,F,k=>match aT F.get i with
  | .op r v=>opt v (dK F i (some (.op r none)) (fun F=>oU l F k)) (fun j=>dK F i (some (.op r (some j))) (fun F=>oU l F k))
  | .os r z v=>opt v (dK F i (some (.os r z none)) (fun F=>oU l F k)) (fun j=>dK F i (some (.os r z (some j))) (fun F=>oU l F k))
  | .om r v=>opt v (dK F i (some (.om r none)) (fun F=>oU l F k)) (fun j=>dK F i (some (.om r (some j))) (fun F=>oU l F k))
  | _=>oU l F k
theorem rk {β:Type} {r:β}:∀(l:List Nat) (F:Tr A) (k:Tr A→Option β),oU l F k=some r→∃F',k F'=some r∧aT F'.get=aT F.get
 | [],F,k,h=>⟨F,h,rfl⟩
 | i::l,F,k,h=>by
  have same:∀(p:A),aT F.get i=p→dK F i (some p) (fun F=>oU l F k)=some r→∃F',k F'=some r∧aT F'.get=aT F.get:=fun p hp h=>by
   obtain ⟨_,F1,k1,k2⟩:=bh h
   obtain ⟨F2,k3,k4⟩:=rk l F1 k k1
   refine ⟨F2,k3,k4.trans ?_⟩
   funext m
   unfold aT at hp ⊢
   rw [k2]
   by_cases hm:m=i
   ·subst hm;simp only [if_true];exact hp.symm
   ·simp only [if_neg hm]
  unfold oU at h
  split at h
  ·rename_i q v hq
   rcases gF h with ⟨e,h1⟩ | ⟨j,e,h1⟩
   ·exact same _ (by rw [hq,e]) h1
   ·exact same _ (by rw [hq,e]) h1
  ·rename_i q z v hq
   rcases gF h with ⟨e,h1⟩ | ⟨j,e,h1⟩
   ·exact same _ (by rw [hq,e]) h1
   ·exact same _ (by rw [hq,e]) h1
  ·rename_i q v hq
   rcases gF h with ⟨e,h1⟩ | ⟨j,e,h1⟩
   ·exact same _ (by rw [hq,e]) h1
   ·exact same _ (by rw [hq,e]) h1
  ·exact rk l F k h
def qi (x:Operand):List Nat:=match x with
 | .tmp i=>[i]
 | _=>[]
def ML (op:Op):List Nat:=match op with
 | .fieldAddr _ x _=>qi x
 | .indexAddr _ x _=>qi x
 | .load _ x=>qi x
 | .store _ x _=>qi x
 | .slice _ x _ _ _=>qi x
 | .lookup _ x _ _=>qi x
 | .mapUpdate _ x _ _=>qi x
 | .insert _ x _ _=>qi x
 | .nilCheck x=>qi x
 | .call c=>match c.callee with
  | .builtin _=>c.args.toList.flatMap qi
  | _=>[]
 | _=>[]
section
variable {P:Program} {E:Env} {cx:Cx} {n:Nat} {β:Type} {r:β}
def H4 (E:Env) (cx:Cx) (n:Nat) (op:Op) (F:Tr A) (h:H) (K:Tr A→A→H→Fp→Option β):Option β:=
 oU (ML op) F (fun F'=>S9 E cx op (Zp n F' (ML op)) h (fun pv h' T=>K F' pv h' T))
theorem Av (hE:bL P E) (hx:j9 P cx) {o:Oper} {F:Tr A} {h:H} {K:Tr A→A→H→Fp→Option β} (hr:H4 E cx n o.op F h K=some r) :
  ∃F',(∀ds S,dT n F' ds S=dT n F ds S)∧∃pv h' T,K F' pv h' T=some r∧Step P o (wv n F') h h' T pv:=by
 obtain ⟨F',h1,h2⟩:=rk _ _ _ hr
 obtain ⟨pv,h',T,k1,k2⟩:=H5 hE hx h1
 refine ⟨F',fun ds S=>by unfold dT;rw [h2],pv,h',T,k1,k2.out,k2.rd,fun S2 hA r g w a next Q hI hv=>k2.ok S2 hA r g w a next Q hI (fun x hx=>H3 (hv x hx))⟩
def oD (l:List Oper):List Nat:=l.flatMap fun o=>o.dst.toList
def tC (E:Env) (cx:Cx) (n:Nat) (l0:List Oper):List Oper→Tr A→H→Fp→(Tr A→H→Fp→Option β)→Option β
 | [],F,h,U,K=>K F h U
 | o::l,F,h,U,K=>match o.guard with
  | none=>H4 E cx n o.op F h (fun F pv h' T=>rF F o.dst pv (fun F'=>tC E cx n l0 l F' h' (U.cat T) K))
  | some (j,want)=>Ef l0 n F j want (fun F b=>bif b then H4 E cx n o.op F h (fun F pv h' T=>rF F o.dst pv (fun F'=>tC E cx n l0 l F' h' (U.cat T) K)) else rF F o.dst .un (fun F'=>tC E cx n l0 l F' h U K))
def Cq (F:Tr A) (h:H) (F':Tr A) (h':H) (n:Nat) (T:Fp) (W:(Exit→St→Prop)→St→Prop) (e:Exit) (ds g_:List Nat):Prop:=
 ∀S2,Agree T (hp h) S2→∀Q:Exit→St→Prop,Q e (dT n F' g_ (gL T (hp h') S2))→W Q (dT n F ds S2)
theorem ru (hE:bL P E) (hx:j9 P cx) {l0:List Oper}:∀(l:List Oper) (F:Tr A) (h:H) (U:Fp) (K:Tr A→H→Fp→Option β),tC E cx n l0 l F h U K=some r →
  ∃F' h' T,K F' h' (U.cat T)=some r∧Kp (oD l) F F'∧lV h h' T∧∀ro S0 g0 w0 ds,Cq F h F' h' n T (fun Q st=>z_ P ro S0 g0 w0 l0.toArray Q l st) .normal ds ds
 | [],F,h,U,K,hr=>⟨F,h,.no,by rw [Fp.nY];exact hr,.refl _ F,.refl h,fun ro S0 g0 w0 ds S2 hA Q hq=>by
   rw [nL] at hq;exact Db hq⟩
 | o::l,F,h,U,K,hr=>by
  have yes:∀(F:Tr A),H4 E cx n o.op F h (fun F pv h' T=>rF F o.dst pv (fun F'=>tC E cx n l0 l F' h' (U.cat T) K))=some r →
    (∀ds S,o.guard=none∨∃j want,o.guard=some (j,want)∧lf l0.toArray (dT n F ds S) j want=some true) →
    ∃F' h' T,K F' h' (U.cat T)=some r∧Kp (oD (o::l)) F F'∧lV h h' T∧∀ro S0 g0 w0 ds,Cq F h F' h' n T (fun Q st=>z_ P ro S0 g0 w0 l0.toArray Q (o::l) st) .normal ds ds:=fun F hr hg=>by
   obtain ⟨F0,e0,pv,h1,T1,k1,k2⟩:=Av hE hx hr
   obtain ⟨F1,k3,Ij,k4⟩:=oG k1
   obtain ⟨F2,h2,T2,k5,Tj,k6,k7⟩:=ru hE hx l F1 h1 (U.cat T1) K k3
   have f1:lV h h1 T1:=⟨k2.out,k2.rd⟩
   have hg:∀ds S,o.guard=none∨∃j want,o.guard=some (j,want)∧lf l0.toArray (dT n F0 ds S) j want=some true:=fun ds S=>by rw [e0];exact hg ds S
   refine ⟨F2,h2,T1.cat T2,by rw [←Fp.gW];exact k5,(Kp.of (l:=[]) e0).trans (m:=oD (o::l)) (Ij.trans Tj (fun i hi=>zQ _ hi) (fun i hi=>zS _ hi)) (fun i hi=>by cases hi) (fun i hi=>hi),f1.trans k6,fun ro S0 g0 w0 ds S2 hA Q hq=>?_⟩
   rw [←e0]
   have oA:yF P o ((dT n F0 ds S2).sW 0) (dT n F0 ds S2).S (gL T1 (hp h1) S2) pv:=by rw [←nM];exact k2.ok S2 hA.left
   have GU:z_ P ro S0 g0 w0 l0.toArray Q l (((dT n F0 ds S2).put o.dst pv).to (gL T1 (hp h1) S2)):=by
    rw [k4]
    refine k7 ro S0 g0 w0 ds _ (Agree.right f1 hA) Q ?_
    rw [eL k6];exact hq
   rcases hg ds S2 with hg | ⟨j,want,hg,hv⟩
   ·exact tE 0 hg oA GU
   ·exact rz 0 hg hv oA GU
  unfold tC at hr
  split at hr
  ·rename_i hg
   exact yes F hr (fun _ _=>.inl hg)
  ·rename_i j want hg
   obtain ⟨F1,b,k1,k2,k3⟩:=wU hr
   cases b with
   | true=>
    simp only [cond_true] at k1
    obtain ⟨F',h',T,q1,qp,q2,q3⟩:=yes F1 k1 (fun ds S=>.inr ⟨j,want,hg,by rw [k2];exact k3 ds S⟩)
    refine ⟨F',h',T,q1,(Kp.of (l:=[]) k2).trans qp (fun i hi=>by cases hi) (fun i hi=>hi),q2,fun ro S0 g0 w0 ds S2 hA Q hq=>?_⟩
    rw [←k2]
    exact q3 ro S0 g0 w0 ds S2 hA Q hq
   | false=>
    simp only [cond_false] at k1
    obtain ⟨F2,k4,Ij,k5⟩:=oG k1
    obtain ⟨F',h',T,q1,qp,q2,q3⟩:=ru hE hx l F2 h U K k4
    refine ⟨F',h',T,q1,(Kp.of (l:=[]) k2).trans (m:=oD (o::l)) (Ij.trans qp (fun i hi=>zQ _ hi) (fun i hi=>zS _ hi)) (fun i hi=>by cases hi) (fun i hi=>hi),q2,fun ro S0 g0 w0 ds S2 hA Q hq=>?_⟩
    have:=q3 ro S0 g0 w0 ds S2 hA Q hq
    rw [←k5 n ds S2 S2] at this
    rw [←k2]
    refine tD hg (by rw [k2];exact k3 ds S2) ?_
    rw [←rB (st:=dT n F1 ds S2)]
    exact this
end
end
section
open Go.RowKit
def gP (kp:Nat→Bool) (i:Nat):Bool:=!(Nat.blt i 16777216) && kp (kN i)
def G.jX (kp:Nat→Bool) (g:G):G:=⟨fun i=>if gP kp i=true then g.bg i else none,g.mem,g.lp⟩
theorem rW (kp:Nat→Bool) (g:G):Le (g.jX kp) g:=⟨fun o p h=>(by
 have h:(if gP kp o=true then g.bg o else none)=some p:=h
 split at h
 ·exact h
 ·cases h),fun _ _ _ h=>h,fun _ _ h=>h⟩
theorem im {kp:Nat→Bool} {g:G} {i:Nat} (h:gP kp i=true):(g.jX kp).bg i=g.bg i:=if_pos h
theorem AX {kp:Nat→Bool} {g:G} {i:Nat} (h:gP kp i=false):(g.jX kp).bg i=none:=if_neg (by rw [h];simp)
def VK (kp:Nat→Bool) (c:A):Prop:=∀g v,V g c v→V (g.jX kp) c v
def JZ (kp:Nat→Bool):Ob→Prop
 | .cells cs=>∀c∈cs,VK kp c
 | .cl (.map es)=>∀e∈es,VK kp e.1∧VK kp e.2
 | .cl _=>False
def G.join (kp:Nat→Bool) (g0 g:G):G:=⟨fun i=>if gP kp i=true then g0.bg i else g.bg i,g0.mem,g0.lp⟩
theorem x5 (kp:Nat→Bool) (g0 g:G):(G.join kp g0 g).jX kp=g0.jX kp:=by
 unfold G.join G.jX
 congr 1
 funext i
 by_cases h:gP kp i=true
 ·simp only [if_pos h]
 ·simp only [if_neg h]
theorem VK.join {kp:Nat→Bool} {c:A} (h:VK kp c) {g0 g:G} {v:Value} (hv:V g0 c v):V (G.join kp g0 g) c v:=by
 have:=h g0 v hv
 rw [←x5 kp g0 g] at this
 exact this.mono (rW kp _)
def Hp.join (kp:Nat→Bool) (S0 S:Hp):Hp:=⟨fun i=>if gP kp i=true then S0.ob i else S.ob i,fun i=>if gP kp i=true then S0.fr i else S.fr i⟩
theorem lv.conv {g g':G} {w w':World} {b t:Nat} {cs:List A} (h:lv g w b t cs) (hw:w'.heap[b]?=w.heap[b]?) (hc:∀c∈cs,∀v,V g c v→V g' c v):lv g' w' b t cs:=by
 obtain ⟨cur,ty,k2,nw,k3⟩:=h
 exact ⟨cur,ty,hw.trans k2,nw,k3.1,fun j c x e1 e2=>⟨hc c (zG e1) _ (k3.2 j c x e1 e2).1,(k3.2 j c x e1 e2).2⟩⟩
theorem BD {kp:Nat→Bool} {g:G} {S S0:Hp} {w:World} (hI:Inv g S w) (h0:∀i,gP kp i=false→S0.ob i=none) (h1:∀i,gP kp i=true→S.ob i=S0.ob i∧(S.fr i↔S0.fr i)) (hk:∀i x,S0.ob i=some x→JZ kp x):Inv (g.jX kp) S0 w:=by
 have kn:∀{i x},S0.ob i=some x→gP kp i=true∧S.ob i=some x:=fun {i x} h=>by
  cases gm:gP kp i with
  | false=>rw [h0 i gm] at h;cases h
  | true=>exact ⟨rfl,(h1 i gm).1.trans h⟩
 have sub:=(rW kp g).bg
 refine ⟨fun o cs h=>?_,fun o x h=>?_,fun o h=>?_,fun o b s h=>hI.lt o b s (sub _ _ h),fun o o' x x' b s s' e1 e2 e3 e4=>hI.inj o o' x x' b s s' (kn e1).2 (kn e2).2 (sub _ _ e3) (sub _ _ e4),hI.mem,fun o b s i x e1 e2=>hI.kh o b s i x (kn e1).2 (sub _ _ e2),hI.lp⟩
 ·obtain ⟨q1,q2⟩:=kn h
  rw [im q1]
  rcases hI.cells o cs q2 with ⟨k1,k2⟩ | ⟨b,t,k1,k2⟩
  ·exact .inl ⟨k1,k2⟩
  ·exact .inr ⟨b,t,k1,k2.conv rfl (fun c hc v hv=>hk o _ h c hc g v hv)⟩
 ·obtain ⟨q1,q2⟩:=kn h
  obtain ⟨b,s,ob,k1,k2,k3⟩:=hI.cl o x q2
  refine ⟨b,s,ob,by rw [im q1];exact k1,k2,?_⟩
  have hx:=hk o _ h
  cases x with
  | map es=>
   obtain ⟨ia,clock,e1,e2,e3⟩:=k3
   exact ⟨ia,clock,e1,e2,fun i e q a1 a2=>let hq:=hx q (zG a2);⟨hq.1 g _ (e3 i e q a1 a2).1,hq.2 g _ (e3 i e q a1 a2).2⟩⟩
  | _=>exact hx.elim
 ·cases gm:gP kp o with
  | false=>exact AX gm
  | true=>rw [im gm];exact hI.fresh o ((h1 o gm).2.2 h)
theorem yg {kp:Nat→Bool} {g BB:G} {S S0 uP:Hp} {w w':World} (hI:Inv g S w) (h0:∀i,gP kp i=false→S0.ob i=none) (h1:∀i,gP kp i=true→S.ob i=S0.ob i∧(S.fr i↔S0.fr i))
  (hk:∀i x,gP kp i=true→uP.ob i=some x→JZ kp x) (CL:Inv BB uP w') (x0:Ext S0 (g.jX kp) w uP BB w') :
  Inv (G.join kp BB g) (Hp.join kp uP S) w'∧Ext S g w (Hp.join kp uP S) (G.join kp BB g) w':=by
 have ow:∀{k},oq S0 (g.jX kp) k→∃o s x,gP kp o=true∧S.ob o=some x∧g.bg o=some (some k,s):=fun {k} ⟨o,s,x,e1,e2⟩=>by
  cases gm:gP kp o with
  | false=>rw [h0 o gm] at e1;cases e1
  | true=>exact ⟨o,s,x,gm,(h1 o gm).1.trans e1,(rW kp g).bg _ _ e2⟩
 have H2:∀{k},oq S0 (g.jX kp) k→oq S g k:=fun {k} h=>by
  obtain ⟨o,s,x,_,e1,e2⟩:=ow h
  exact ⟨o,s,x,e1,e2⟩
 have other:∀{o x b s},gP kp o=false→S.ob o=some x→g.bg o=some (some b,s)→¬oq S0 (g.jX kp) b:=fun {o x b s} hn e1 e2 h=>by
  obtain ⟨o',s',x',k1,k2,k3⟩:=ow h
  have:=hI.inj o o' x x' b s s' e1 k2 e2 k3
  rw [this,k1] at hn;cases hn
 have ji:∀{i},gP kp i=true→(G.join kp BB g).bg i=BB.bg i∧(Hp.join kp uP S).ob i=uP.ob i∧((Hp.join kp uP S).fr i↔uP.fr i):=fun {i} h=>⟨if_pos h,if_pos h,by show (if gP kp i=true then _ else _)↔_;rw [if_pos h]⟩
 have jo:∀{i},gP kp i=false→(G.join kp BB g).bg i=g.bg i∧(Hp.join kp uP S).ob i=S.ob i∧((Hp.join kp uP S).fr i↔S.fr i):=fun {i} h=>by
  have h':¬gP kp i=true:=by rw [h];simp
  exact ⟨if_neg h',if_neg h',by show (if gP kp i=true then _ else _)↔_;rw [if_neg h']⟩
 have le:Le g (G.join kp BB g):=⟨fun o p e=>(by
  cases gm:gP kp o with
  | true=>rw [(ji gm).1];exact x0.le.bg o p (by rw [im gm];exact e)
  | false=>rw [(jo gm).1];exact e),x0.le.mem,x0.le.lp⟩
 have heap:∀{o x b s},gP kp o=false→S.ob o=some x→g.bg o=some (some b,s)→w'.heap[b]?=w.heap[b]?:=fun {o x b s} hn e1 e2=>x0.frame b (hI.lt o b s e2) (other hn e1 e2)
 refine ⟨⟨fun o cs h=>?_,fun o x h=>?_,fun o h=>?_,fun o b s h=>?_,fun o o' x x' b s s' e1 e2 e3 e4=>?_,CL.mem,fun o b s i x e1 e2=>?_,CL.lp⟩,⟨le,x0.os,x0.tape,x0.output,x0.size,fun k hk1 JP=>x0.frame k hk1 (fun h=>JP (H2 h)),fun k h=>?_,fun o p h=>?_,fun o h=>?_,fun b i x h=>?_,fun b l h=>x0.lpo b l h⟩⟩
 ·cases gm:gP kp o with
  | true=>
   rw [(ji gm).2.1] at h
   rw [(ji gm).1]
   rcases CL.cells o cs h with ⟨k1,k2⟩ | ⟨b,t,k1,k2⟩
   ·exact .inl ⟨k1,k2⟩
   ·exact .inr ⟨b,t,k1,k2.conv rfl (fun c hc v hv=>(hk o _ gm h c hc).join hv)⟩
  | false=>
   rw [(jo gm).2.1] at h
   rw [(jo gm).1]
   rcases hI.cells o cs h with ⟨k1,k2⟩ | ⟨b,t,k1,k2⟩
   ·exact .inl ⟨k1,k2⟩
   ·exact .inr ⟨b,t,k1,k2.conv (heap gm h k1) (fun c hc v hv=>hv.mono le)⟩
 ·cases gm:gP kp o with
  | true=>
   rw [(ji gm).2.1] at h
   rw [(ji gm).1]
   obtain ⟨b,s,ob,k1,k2,k3⟩:=CL.cl o x h
   refine ⟨b,s,ob,k1,k2,?_⟩
   have hx:=hk o _ gm h
   cases x with
   | map es=>
    obtain ⟨ia,clock,e1,e2,e3⟩:=k3
    exact ⟨ia,clock,e1,e2,fun i e q a1 a2=>let hq:=hx q (zG a2);⟨hq.1.join (e3 i e q a1 a2).1,hq.2.join (e3 i e q a1 a2).2⟩⟩
   | _=>exact hx.elim
  | false=>
   rw [(jo gm).2.1] at h
   rw [(jo gm).1]
   obtain ⟨b,s,ob,k1,k2,k3⟩:=hI.cl o x h
   exact ⟨b,s,ob,k1,(heap gm h k1).trans k2,k3.mono le⟩
 ·cases gm:gP kp o with
  | true=>rw [(ji gm).1];exact CL.fresh o ((ji gm).2.2.1 h)
  | false=>rw [(jo gm).1];exact hI.fresh o ((jo gm).2.2.1 h)
 ·cases gm:gP kp o with
  | true=>rw [(ji gm).1] at h;exact CL.lt o b s h
  | false=>rw [(jo gm).1] at h;exact Nat.lt_of_lt_of_le (hI.lt o b s h) x0.size
 ·have mixed:∀{o o' x x' b s s'},gP kp o=true→gP kp o'=false→uP.ob o=some x→S.ob o'=some x'→BB.bg o=some (some b,s)→g.bg o'=some (some b,s')→False:=fun {o o' x x' b s s'} h1 h2 e1 e2 e3 e4=>by
   rcases x0.own b ⟨o,s,x,e1,e3⟩ with h | h
   ·exact other h2 e2 e4 h
   ·have:=hI.lt o' b s' e4;omega
  cases gm:gP kp o with
  | true=>
   rw [(ji gm).2.1] at e1
   rw [(ji gm).1] at e3
   cases pF:gP kp o' with
   | true=>
    rw [(ji pF).2.1] at e2
    rw [(ji pF).1] at e4
    exact CL.inj o o' x x' b s s' e1 e2 e3 e4
   | false=>
    rw [(jo pF).2.1] at e2
    rw [(jo pF).1] at e4
    exact (mixed gm pF e1 e2 e3 e4).elim
  | false=>
   rw [(jo gm).2.1] at e1
   rw [(jo gm).1] at e3
   cases pF:gP kp o' with
   | true=>
    rw [(ji pF).2.1] at e2
    rw [(ji pF).1] at e4
    exact (mixed pF gm e2 e1 e4 e3).elim
   | false=>
    rw [(jo pF).2.1] at e2
    rw [(jo pF).1] at e4
    exact hI.inj o o' x x' b s s' e1 e2 e3 e4
 ·cases gm:gP kp o with
  | true=>
   rw [(ji gm).2.1] at e1
   rw [(ji gm).1] at e2
   exact CL.kh o b s i x e1 e2
  | false=>
   rw [(jo gm).2.1] at e1
   rw [(jo gm).1] at e2
   show BB.mem b i=none
   cases hm:BB.mem b i with
   | none=>rfl
   | some y=>
    rcases x0.rP b i y hm with h | h | h
    ·have:=hI.kh o b s i x e1 e2
     have h:g.mem b i=some y:=h
     rw [this] at h;cases h
    ·exact absurd h (other gm e1 e2)
    ·have:=hI.lt o b s e2;omega
 ·obtain ⟨o,s,x,e1,e2⟩:=h
  cases gm:gP kp o with
  | true=>
   rw [(ji gm).2.1] at e1
   rw [(ji gm).1] at e2
   rcases x0.own k ⟨o,s,x,e1,e2⟩ with h | h
   ·exact .inl (H2 h)
   ·exact .inr h
  | false=>
   rw [(jo gm).2.1] at e1
   rw [(jo gm).1] at e2
   exact .inl ⟨o,s,x,e1,e2⟩
 ·cases gm:gP kp o with
  | true=>
   rw [(ji gm).1] at h
   rcases x0.G6 o p h with h | ⟨h,k⟩
   ·rw [im gm] at h;exact .inl h
   ·rw [im gm] at h;exact .inr ⟨h,(h1 o gm).2.2 k⟩
  | false=>rw [(jo gm).1] at h;exact .inl h
 ·cases gm:gP kp o with
  | true=>exact (h1 o gm).2.2 (x0.fr o ((ji gm).2.2.1 h))
  | false=>exact (jo gm).2.2.1 h
 ·rcases x0.rP b i x h with h | h | h
  ·exact .inl h
  ·exact .inr (.inl (H2 h))
  ·exact .inr (.inr h)
end
section
open Go.RowKit
theorem PC.frame {P:Program} {f:FuncId} {kp:Nat→Bool} {aa:List A} {S S0 uP:Hp} {r:A} (h0:∀i,gP kp i=false→S0.ob i=none) (h1:∀i,gP kp i=true→S.ob i=S0.ob i∧(S.fr i↔S0.fr i)) (hk:∀i x,S0.ob i=some x→JZ kp x)
  (JQ:∀i x,gP kp i=true→uP.ob i=some x→JZ kp x) (ha:∀a∈aa,VK kp a) (hr:VK kp r) (h:PC P f aa S0 uP r):PC P f aa S (Hp.join kp uP S) r:=fun g w vs hI hl hv=>by
 refine (h (g.jX kp) w vs (BD hI h0 h1 hk) hl (fun i p v e1 e2=>ha p (zG e1) g v (hv i p v e1 e2))).mono ?_
 rintro e w' ⟨v,g',rfl,k1,k2,k3⟩
 obtain ⟨q1,q2⟩:=yg hI h0 h1 JQ k2 k3
 exact ⟨v,_,rfl,hr.join k1,q1,q2⟩
def nQ (kp:Nat→Bool):Ty→Bool
 | .int _=>true
 | .bool=>true
 | .unit=>true
 | .pair a b=>nQ kp a && nQ kp b
 | .arr _ t=>nQ kp t
 | .aH _=>true
 | .ptr r=>Nat.blt r 64 && kp r
 | .cC r=>Nat.blt r 64 && kp r
 | .iL r _=>Nat.blt r 64 && kp r
 | .nu r _=>Nat.blt r 64 && kp r
 | .mp r=>Nat.blt r 64 && kp r
theorem rV {kp:Nat→Bool} {r j:Nat} (h:r<64) (hk:kp r=true):gP kp (dV r j)=true:=by
  have h1:=mh r j
  have h2:=kc (j:=j) h
  generalize dV r j=i at h1 h2
  unfold gP
  rw [h2,hk,Bool.and_true]
  cases hx:Nat.blt i 16777216 with
  | false=>rfl
  | true=>
            have:i<16777216:=by simpa using hx
            unfold cb at h1;omega
theorem VK.v {kp:Nat→Bool} (x:Value):VK kp (.v x):=fun g v h=>by cases h;exact .v _
theorem VK.tp {kp:Nat→Bool} {r j:Nat} (h:r<64) (hk:kp r=true):VK kp (.tp (.dq r j) []):=fun g v hv=>by
 cases hv with
 | tp _ _ b s bG hp=>exact .tp _ _ b s (by rw [show (Ref.dq r j).id=dV r j from rfl,im (rV h hk)];exact bG) hp
theorem VK.tw {kp:Nat→Bool} {r j z:Nat} (h:r<64) (hk:kp r=true):VK kp (.tw (.dq r j) z):=fun g v hv=>by
 have e:(g.jX kp).bg (Ref.dq r j).id=g.bg (Ref.dq r j).id:=im (rV h hk)
 cases hv with
 | qE _ _ ad bG=>exact .qE _ _ ad (by rw [e];exact bG)
 | tw _ _ n b cap t bG hn hx hp d hd=>exact .tw _ _ n b cap t (by rw [e];exact bG) hn hx hp d hd
theorem VK.mp {kp:Nat→Bool} {r j:Nat} (h:r<64) (hk:kp r=true):VK kp (.mp (.dq r j)):=fun g v hv=>by
 cases hv with
 | mp _ b s bG=>exact .mp _ b s (by rw [show (Ref.dq r j).id=dV r j from rfl,im (rV h hk)];exact bG)
theorem VK.tl {kp:Nat→Bool} {t:Ty} {f:Bool} {l:List t.T}:VK kp (.tl t f l):=fun g v hv=>by
 cases hv with
 | tl _ _ _ _ hd=>exact .tl t f l v hd
theorem ud {α β:Type} {f:α→List β} {p:β→Prop} (h:∀x,∀c∈f x,p c) (l:List α):∀c∈l.flatMap f,p c:=fun c hc=>by
 obtain ⟨x,_,hx⟩:=List.mem_flatMap.1 hc
 exact h x c hx
theorem mv {kp:Nat→Bool}:∀(t:Ty) (x:t.T),nQ kp t=true→∀c∈aA t x,VK kp c
 | .int k,x,_,c,hc=>by rcases zF.1 hc with rfl;exact .v _
 | .bool,x,_,c,hc=>by rcases zF.1 hc with rfl;exact .v _
 | .unit,x,_,c,hc=>by cases hc
 | .pair a b,x,h,c,hc=>by
  simp only [nQ,zC] at h
  rcases zX.1 hc with hc | hc
  ·exact mv a x.1 h.1 c hc
  ·exact mv b x.2 h.2 c hc
 | .arr n t,l,h,c,hc=>ud (f:=fun i=>aA t (nth t.cg l i)) (fun i c hc=>mv t _ h c hc) _ c hc
 | .aH t,l,_,c,hc=>by rcases zF.1 hc with rfl;exact .tl
 | .ptr r,x,h,c,hc=>by
  simp only [nQ,zC] at h
  rcases zF.1 hc with rfl
  intro g v hv
  cases hv with
  | op _ _ _ h0 h1=>exact .op r x v h0 (fun j e=>VK.tp (aU h.1) h.2 g v (h1 j e))
 | .cC r,j,h,c,hc=>by
  simp only [nQ,zC] at h
  rcases zF.1 hc with rfl
  exact .tp (aU h.1) h.2
 | .iL r z,x,h,c,hc=>by
  simp only [nQ,zC] at h
  rcases zF.1 hc with rfl
  intro g v hv
  cases hv with
  | os _ _ _ _ h0 h1=>exact .os r z x v (fun e=>by cases h0 e with | e0 ad=>exact .e0 ad) (fun j e=>VK.tw (aU h.1) h.2 g v (h1 j e))
 | .nu r z,j,h,c,hc=>by
  simp only [nQ,zC] at h
  rcases zF.1 hc with rfl
  exact .tw (aU h.1) h.2
 | .mp r,x,h,c,hc=>by
  simp only [nQ,zC] at h
  rcases zF.1 hc with rfl
  intro g v hv
  cases hv with
  | om _ _ _ h0 h1=>exact .om r x v h0 (fun j e=>VK.mp (aU h.1) h.2 g v (h1 j e))
theorem VK.agg {kp:Nat→Bool} {cs:List A} (h:∀c∈cs,VK kp c):VK kp (.agg cs):=fun g v hv=>by
 cases hv with
 | agg _ vs hl h1 h2=>exact .agg cs vs hl h1 (fun i c x e1 e2=>h c (zG e1) g x (h2 i c x e1 e2))
theorem VK.il {kp:Nat→Bool} {cs:List A} (h:∀c∈cs,VK kp c):VK kp (.il cs):=fun g v hv=>by
 cases hv with
 | il _ vs hl h2=>exact .il cs vs hl (fun i c x e1 e2=>h c (zG e1) g x (h2 i c x e1 e2))
theorem VK.b8 {kp:Nat→Bool}:VK kp .b8:=fun g v _=>.b8 v
theorem VK.pack {kp:Nat→Bool} {a:Bool} {t:Ty} (x:t.T) (h:nQ kp t=true):VK kp (bM a t x):=by
 unfold bM
 cases a with
 | true=>exact .agg (mv t x h)
 | false=>
  simp only [cond_false]
  split
  ·rename_i c hc
   exact mv t x h c (by rw [hc];exact .head _)
  ·exact .b8
def RK.nQ (kp:Nat→Bool):RK→Bool
 | .box t=>Bm.nQ kp t
 | .row t=>Bm.nQ kp t
 | .map _ tk _ tv=>Bm.nQ kp tk && Bm.nQ kp tv
theorem xr {kp:Nat→Bool} {k:RK} {c:k.T} {j:Nat} {x:Ob} (hk:k.nQ kp=true) (h:cU k c j=some x):JZ kp x:=by
 cases k with
 | box t=>
  have h:(match jY (α:=t.T) c j with | some x=>some (Ob.cells (aA t x)) | none=>none)=some x:=h
  split at h
  ·cases h;exact mv t _ hk
  ·cases h
 | row t=>
  have h:(match jY (α:=Option (List t.T)) c j with | some (some l)=>some (Ob.cells (l.flatMap (aA t))) | _=>none)=some x:=h
  split at h
  ·cases h;exact ud (fun y c hc=>mv t y hk c hc) _
  ·cases h
 | map ka tk va tv=>
  have h:(match jY (α:=List (tk.T×tv.T)) c j with | some es=>some (Ob.cl (.map (gI ka tk va tv es))) | none=>none)=some x:=h
  simp only [RK.nQ,zC] at hk
  split at h
  ·cases h
   intro e he
   obtain ⟨y,_,rfl⟩:=List.mem_map.1 he
   exact ⟨.pack _ hk.1,.pack _ hk.2⟩
  ·cases h
end
section
open Go.RowKit
deriving instance DecidableEq for RK
def u_:List A→A
 | [p]=>p
 | ps=>.il ps
structure cF where
 ps:List (Bool×Ty)
 rs:List (Bool×Ty)
 rg:List (Nat×RK)
 wg:List (Nat×RK)
def js:List (Bool×Ty)→Type
 | []=>Unit
 | p::l=>p.2.T×js l
def lr:(l:List (Bool×Ty))→js l→List A
 | [],_=>[]
 | p::l,x=>bM p.1 p.2 x.1::lr l x.2
def qg:List (Nat×RK)→Type
 | []=>Unit
 | p::l=>p.2.T×qg l
def cH:(l:List (Nat×RK))→qg l→List Rg
 | [],_=>[]
 | p::l,x=>⟨p.1,p.2,x.1⟩::cH l x.2
def h0 (rl wl:List (Nat×RK)) (c:qg rl) (d:qg wl):H:=⟨.nil,0,cH wl d++cH rl c,[]⟩
def Hu:(l:List (Bool×Ty))→List A→Option (js l)
 | [],[]=>some ()
 | p::l,a::aa=>match jU p.1 p.2 a,Hu l aa with
  | some x,some y=>some (x,y)
  | _,_=>none
 | _,_=>none
theorem rh:∀(l:List (Bool×Ty)) (aa:List A) (x:js l),Hu l aa=some x→aa.length=(lr l x).length∧∀(i:Nat) (a b:A),aa[i]?=some a→(lr l x)[i]?=some b→∀g v,V g a v→V g b v
 | [],[],x,_=>⟨rfl,fun i a b h=>by simp at h⟩
 | p::l,a::aa,x,h=>by
  simp only [Hu] at h
  split at h
  ·rename_i y z h1 h2
   cases h
   obtain ⟨k1,k2⟩:=rh l aa z h2
   refine ⟨congrArg Nat.succ k1,fun i a' b e1 e2=>?_⟩
   cases i with
   | zero=>
    have e1:a=a':=Option.some.inj e1
    have e2:bM p.1 p.2 y=b:=Option.some.inj e2
    subst e1 e2
    exact fun g v hv=>iO h1 hv
   | succ i=>exact k2 i a' b e1 e2
  ·cases h
 | [],_::_,_,h=>by cases h
 | _::_,[],_,h=>by cases h
def Hg (a b:RK) (c:a.T):Option b.T:=if h:a=b then some (h▸c) else none
def cA (l:List (Nat×RK)) (r:Nat):Bool:=l.any fun p=>Nat.beq p.1 r
def vC:(l:List (Nat×RK))→List Rg→Option (qg l)
 | [],_=>some ()
 | p::l,rg=>match bl rg p.1,vC l rg with
  | some ⟨_,k,c⟩,some y=>match Hg k p.2 c with
   | some x=>some (x,y)
   | none=>none
  | _,_=>none
theorem wa:∀{rg:List Rg} {r:Nat} {x:Rg},bl rg r=some x→x.r=r
 | y::l,r,x,h=>by
  unfold bl at h
  cases hy:Nat.beq y.r r with
  | true=>rw [hy] at h;cases h;exact beq_eq hy
  | false=>rw [hy] at h;exact wa h
theorem cX:∀(l:List (Nat×RK)) (c:qg l) (r:Nat),cA l r=false→bl (cH l c) r=none
 | [],_,_,_=>rfl
 | p::l,c,r,h=>by
  have h:(Nat.beq p.1 r || cA l r)=false:=h
  rw [Bool.or_eq_false_iff] at h
  show (bif Nat.beq p.1 r then _ else _)=_
  rw [h.1]
  exact cX l c.2 r h.2
theorem hZ:∀(l:List (Nat×RK)) (c:qg l) (r:Nat),cA l r=true→∃x,bl (cH l c) r=some x
 | p::l,c,r,h=>by
  show ∃x,(bif Nat.beq p.1 r then some (⟨p.1,p.2,c.1⟩:Rg) else bl (cH l c.2) r)=some x
  cases hq:Nat.beq p.1 r with
  | true=>exact ⟨_,rfl⟩
  | false=>
   have h:(Nat.beq p.1 r || cA l r)=true:=h
   rw [hq,Bool.false_or] at h
   exact hZ l c.2 r h
theorem fQ:∀(l k:List Rg) (r:Nat),bl (l++k) r=match bl l r with | some x=>some x | none=>bl k r
 | [],k,r=>rfl
 | y::l,k,r=>by
  show (bif Nat.beq y.r r then some y else bl (l++k) r)=match (bif Nat.beq y.r r then some y else bl l r) with | some x=>some x | none=>bl k r
  cases hy:Nat.beq y.r r with
  | true=>rfl
  | false=>exact fQ l k r
theorem jZ:∀(l:List (Nat×RK)) (rg:List Rg) (c:qg l),vC l rg=some c→∀r,cA l r=true→bl (cH l c) r=bl rg r∧∃x,bl rg r=some x
 | [],_,_,_,_,h=>by cases h
 | p::l,rg,c,hg,r,h=>by
  simp only [vC] at hg
  split at hg
  ·rename_i r' k c' y h1 h2
   split at hg
   ·rename_i x hx
    cases hg
    show (bif Nat.beq p.1 r then some (⟨p.1,p.2,x⟩:Rg) else bl (cH l y) r)=_∧_
    cases hp:Nat.beq p.1 r with
    | true=>
     have e:=beq_eq hp
     subst e
     have hr:=wa h1
     simp only at hr
     subst hr
     unfold Hg at hx
     split at hx
     ·rename_i ek
      obtain ⟨p1,p2⟩:=p
      simp only at ek
      subst ek
      cases hx
      rw [h1]
      exact ⟨rfl,_,rfl⟩
     ·cases hx
    | false=>
     have h:(Nat.beq p.1 r || cA l r)=true:=h
     rw [hp,Bool.false_or] at h
     exact jZ l rg y h2 r h
   ·cases hg
  ·cases hg
def ZZ (g:G) (aa:List A) (vs:List Value):Prop:=∀(i:Nat) (a:A) (v:Value),aa[i]?=some a→vs[i]?=some v→V g a v
def CvL (h h':H) (T:List Nat) (aa uO:List A):Prop:=uO.length=aa.length∧∃us,hp h'=app us (hp h)∧(∀u∈us,aF (.wr T) u.id=true) ∧
 ∀g S w (vs:List Value),Inv g S w→Agree (.wr T) (hp h) S→aa.length=vs.length→ZZ g aa vs→∃g',Inv g' (app us S) w∧Ext S g w (app us S) g' w∧ZZ g' uO vs
def BI (a:Bool) (t:Ty) (p:A) (h:H):Option (A×H×List Nat):=bif a then (match p with
 | .agg cs=>match fixC 20 t cs h with
  | some (gz,h',T)=>some (.agg gz,h',T)
  | none=>none
 | _=>none) else bif vo p then none else (match p.cells with
 | some [c]=>match fixC 20 t [c] h with
  | some ([c'],h',T)=>some (c',h',T)
  | _=>none
 | _=>none)
def yj:List (Bool×Ty)→List A→H→Option (List A×H×List Nat)
 | [],[],h=>some ([],h,[])
 | p::l,a::aa,h=>match BI p.1 p.2 a h with
  | some (a',h1,T1)=>match yj l aa h1 with
   | some (uO,h2,T2)=>some (a'::uO,h2,T1++T2)
   | none=>none
  | none=>none
 | _,_,_=>none
theorem yx {p c:A} (ha:vo p=false) (h:p.cells=some [c]):c=p:=by
 unfold A.cells at h
 split at h
 ·cases ha
 ·rename_i x
  cases hx:x.oneCell' with
  | true=>rw [hx] at h;simp at h;exact h.symm
  | false=>rw [hx] at h;cases h
 ·cases h
 ·cases h
 ·cases h
 ·simp at h;exact h.symm
theorem sy {a:Bool} {t:Ty} {p p':A} {h h':H} {T:List Nat} (hf:BI a t p h=some (p',h',T)):∃us,hp h'=app us (hp h)∧(∀u∈us,aF (.wr T) u.id=true)∧∀g S w (v:Value),Inv g S w→Agree (.wr T) (hp h) S→V g p v→∃g',Inv g' (app us S) w∧Ext S g w (app us S) g' w∧V g' p' v:=by
 unfold BI at hf
 cases a with
 | true=>
  simp only [cond_true] at hf
  split at hf
  ·rename_i cs
   split at hf
   ·rename_i gz h1 T1 hc
    simp only [zI,zU] at hf
    obtain ⟨rfl,rfl,rfl⟩:=hf
    obtain ⟨us,c1,c2,c3⟩:=na _ _ _ _ _ _ _ hc
    refine ⟨us,c1,c2,fun g S w v hI hA hv=>?_⟩
    cases hv with
    | agg _ vs hl h1 hh=>
     obtain ⟨g',q1,q2,q3⟩:=c3 g S w vs.toList hI hA ⟨by simpa using hl,fun j c x e1 e2=>⟨hh j c x e1 (by simpa using e2),h1 x (zG e2)⟩⟩
     exact ⟨g',q1,q2,by have:=q3.agg;simpa using this⟩
   ·cases hf
  ·cases hf
 | false=>
  simp only [cond_false] at hf
  obtain ⟨ha,hf⟩:=hC hf
  split at hf
  ·rename_i c hc
   split at hf
   ·rename_i c' h1 T1 D_
    simp only [zI,zU] at hf
    obtain ⟨rfl,rfl,rfl⟩:=hf
    obtain ⟨us,c1,c2,c3⟩:=na _ _ _ _ _ _ _ D_
    obtain rfl:=yx ha hc
    refine ⟨us,c1,c2,fun g S w v hI hA hv=>?_⟩
    obtain ⟨g',q1,q2,q3⟩:=c3 g S w [v] hI hA ⟨rfl,fun j c x e1 e2=>by
     cases j with
     | zero=>simp at e1 e2;subst e1 e2;exact ⟨hv,hv.Zg ha hc⟩
     | succ j=>simp at e1⟩
    exact ⟨g',q1,q2,(q3.2 0 _ v rfl rfl).1⟩
   ·cases hf
  ·cases hf
theorem sw:∀{l:List (Bool×Ty)} {aa uO:List A} {h h':H} {T:List Nat},yj l aa h=some (uO,h',T)→CvL h h' T aa uO
 | [],[],uO,h,h',T,hf=>by
  simp only [yj,zI,zU] at hf
  obtain ⟨rfl,rfl,rfl⟩:=hf
  exact ⟨rfl,[],rfl,fun u hu=>(by simp at hu),fun g S w vs hI _ _ hv=>⟨g,hI,.refl S g w,hv⟩⟩
 | p::l,a::aa,uO,h,h',T,hf=>by
  simp only [yj] at hf
  split at hf
  ·rename_i a1 h1 T1 GZ
   split at hf
   ·rename_i as1 h2 T2 Bs
    simp only [zI,zU] at hf
    obtain ⟨rfl,rfl,rfl⟩:=hf
    obtain ⟨us,c1,c2,c3⟩:=sy GZ
    obtain ⟨hl,Z4,d1,d2,d3⟩:=sw Bs
    refine ⟨by simp [hl],us++Z4,by rw [gJ,←c1,d1],fun u hu=>?_,fun g S w vs hI hA hlen hv=>?_⟩
    ·rcases zX.1 hu with h | h
     ·exact dJ (fun i hi=>zQ _ hi) (c2 u h)
     ·exact dJ (fun i hi=>zS _ hi) (d2 u h)
    ·have JT:Agree (.wr T1) (hp h) S:=hA.mono fun i hi=>zQ _ hi
     have yd:Agree (.wr T2) (hp h1) (app us S):=by rw [c1];exact (hA.mono (fun i hi=>zS _ hi)).app us
     cases vs with
     | nil=>simp at hlen
     | cons v vs=>
      obtain ⟨g',q1,q2,q3⟩:=c3 g S w v hI JT (hv 0 a v rfl rfl)
      obtain ⟨g2,z1,z2,z3⟩:=d3 g' _ w vs q1 yd (by simpa using hlen) (fun i a v e1 e2=>(hv (i+1) a v (by simpa using e1) (by simpa using e2)).mono q2.le)
      rw [gJ]
      refine ⟨g2,z1,q2.trans z2,fun i a v e1 e2=>?_⟩
      cases i with
      | zero=>simp at e1 e2;subst e1 e2;exact q3.mono z2.le
      | succ i=>exact z3 i a v (by simpa using e1) (by simpa using e2)
   ·cases hf
  ·cases hf
 | [],_::_,_,_,_,_,hf=>by cases hf
 | _::_,[],_,_,_,_,hf=>by cases hf
def vE (l:List (Bool×Ty)) (pv:A) (h:H):Option (A×H×List Nat):=match pv with
 | .il aa=>match yj l aa h with
  | some (uO,h',T)=>some (.il uO,h',T)
  | none=>none
 | _=>none
def vF (l:List (Bool×Ty)) (pv:A) (h:H):Option (A×H×List Nat):=match l with
 | [p]=>BI p.1 p.2 pv h
 | l=>vE l pv h
def Plain (sg:cF):Type:=js sg.ps→qg sg.rg→qg sg.wg→Option (js sg.rs×qg sg.wg)
def E1 (l:List (Bool×Ty)) (pv:A):Option (js l):=match l with
 | [p]=>Hu [p] [pv]
 | l=>match pv with
  | .il aa=>Hu l aa
  | _=>none
def okW (l:List (Nat×RK)) (q:Nat):Bool:=Nat.beq (q%2) 0 || l.any fun p=>Nat.beq q (gB p.1)
def C5 (cx:Cx) (f:FuncId) (sg:cF) (aa:List A) (c:qg sg.rg) (d:qg sg.wg):Option (js sg.rs×qg sg.wg):=cx.call (js sg.rs×qg sg.wg) f aa (h0 sg.rg sg.wg c d) (fun pv h' T=>match vF sg.rs pv h' with
 | some (Cw,h2,T2)=>bif T.ws.all (okW sg.wg) && T2.all (okW sg.wg) then (match E1 sg.rs Cw,vC sg.wg h2.rg with
  | some y,some d'=>some (y,d')
  | _,_=>none) else none
 | none=>none)
def HC (cx:Cx) (f:FuncId) (sg:cF):Plain sg:=fun x c d=>C5 cx f sg (lr sg.ps x) c d
def tu (l:List (Bool×Ty)) (y:js l):A:=u_ (lr l y)
structure bt (P:Program) (f:FuncId) (sg:cF) (F:Plain sg):Prop where
 fn:∀x c d y,F x c d=some y→sS P f
 pc:∀x c d y d',F x c d=some (y,d')→∃t aQ lk,PC P f (lr sg.ps x) (hp (h0 sg.rg sg.wg c d)) (hp ⟨t,aQ,cH sg.wg d'++cH sg.rg c,lk⟩) (tu sg.rs y)
theorem wy {l:List (Nat×RK)} {ws:List Nat} (h:ws.all (okW l)=true) {r:Nat} (hr:cA l r=false):ws.any (Nat.beq (gB r))=false:=by
 cases hx:ws.any (Nat.beq (gB r)) with
 | false=>rfl
 | true=>
  obtain ⟨q,h1,h2⟩:=List.any_eq_true.1 hx
  have h3:=List.all_eq_true.1 h q h1
  obtain rfl:=beq_eq h2
  unfold okW at h3
  rw [Bool.or_eq_true] at h3
  rcases h3 with h3 | h3
  ·have:=beq_eq h3;unfold gB at this;omega
  ·obtain ⟨p,p1,p2⟩:=List.any_eq_true.1 h3
   have:r=p.1:=by have:=beq_eq p2;unfold gB at this;omega
   subst this
   rw [show cA l p.1=true from List.any_eq_true.2 ⟨p,p1,Nat.beq_refl _⟩] at hr
   cases hr
theorem y7 {l:List (Bool×Ty)} {pv:A} {y:js l} (h:E1 l pv=some y):∀g v,V g pv v→V g (tu l y) v:=by
 have il:∀(l:List (Bool×Ty)) (aa:List A) (y:js l),Hu l aa=some y→∀g v,V g (.il aa) v→V g (.il (lr l y)) v:=fun l aa y h g v hv=>by
  obtain ⟨k1,k2⟩:=rh l aa y h
  cases hv with
  | il _ vs hl CE=>
   refine .il _ vs (by rw [←k1];exact hl) (fun i c x e1 e2=>?_)
   have hi:i<aa.length:=by rw [k1];exact (zB.1 e1).1
   exact k2 i _ c (zD hi) e1 g x (CE i _ x (zD hi) e2)
 match l,y,h with
 | [p],y,h=>exact fun g v hv=>(rh [p] [pv] y h).2 0 pv _ rfl rfl g v hv
 | [],y,h=>
  intro g v hv
  cases pv with
  | il aa=>exact il [] aa y h g v hv
  | _=>cases h
 | p::q::l,y,h=>
  intro g v hv
  cases pv with
  | il aa=>exact il (p::q::l) aa y h g v hv
  | _=>cases h
theorem Agree.self {T:Fp} {S:Hp}:Agree T S S:=fun _ _=>⟨rfl,Iff.rfl⟩
theorem dS {h:H} {i:Nat} (hl:¬i<cb):(hp h).ob i=cV h.rg i∧((hp h).fr i↔eV h.rg i):=⟨if_neg hl,by show (if i<cb then _ else _)↔_;rw [if_neg hl]⟩
theorem nJ {i:Nat} (h:¬i<16777216):res i=gB (kN i):=by
 unfold res
 rw [rN h];rfl
theorem yi {l:List (Bool×Ty)} {pv Cw:A} {h h':H} {T:List Nat} (hf:vF l pv h=some (Cw,h',T)):∃us,hp h'=app us (hp h)∧(∀u∈us,aF (.wr T) u.id=true)∧∀g S w (v:Value),Inv g S w→Agree (.wr T) (hp h) S→V g pv v→∃g',Inv g' (app us S) w∧Ext S g w (app us S) g' w∧V g' Cw v:=by
 have il:∀(l:List (Bool×Ty)),vE l pv h=some (Cw,h',T)→∃us,hp h'=app us (hp h)∧(∀u∈us,aF (.wr T) u.id=true)∧∀g S w (v:Value),Inv g S w→Agree (.wr T) (hp h) S→V g pv v→∃g',Inv g' (app us S) w∧Ext S g w (app us S) g' w∧V g' Cw v:=fun l hf=>by
  unfold vE at hf
  split at hf
  ·rename_i aa
   split at hf
   ·rename_i uO h1 T1 hc
    simp only [zI,zU] at hf
    obtain ⟨rfl,rfl,rfl⟩:=hf
    obtain ⟨hl,us,c1,c2,c3⟩:=sw hc
    refine ⟨us,c1,c2,fun g S w v hI hA hv=>?_⟩
    cases hv with
    | il _ vs JO hh=>
     obtain ⟨g',q1,q2,q3⟩:=c3 g S w vs.toList hI hA (by simpa using JO) (fun i c x e1 e2=>hh i c x e1 (by simpa using e2))
     exact ⟨g',q1,q2,.il uO vs (by rw [hl,JO]) (fun i c x e1 e2=>q3 i c x e1 (by simpa using e2))⟩
   ·cases hf
  ·cases hf
 unfold vF at hf
 split at hf
 ·exact sy hf
 ·exact il _ hf
theorem mN {P:Program} {cx:Cx} (hx:j9 P cx) (f:FuncId) (sg:cF):∀aa c d y d',C5 cx f sg aa c d=some (y,d')→sS P f∧∃t aQ lk,PC P f aa (hp (h0 sg.rg sg.wg c d)) (hp ⟨t,aQ,cH sg.wg d'++cH sg.rg c,lk⟩) (tu sg.rs y):=fun aa c d y d' h=>by
 obtain ⟨pv,h',T,k1,k2⟩:=hx.call _ f _ _ _ _ h
 split at k1
 ·rename_i Cw h2 T2 Ui
  obtain ⟨kw,k1⟩:=af k1
  rw [zC] at kw
  split at k1
  ·rename_i y' d'' h1 Ry
   cases k1
   refine ⟨k2.fn,h2.t,h2.aQ,h2.lk,?_⟩
   have hs:=k2.ok (hp (h0 sg.rg sg.wg c d)) Agree.self
   have e:gL T (hp h') (hp (h0 sg.rg sg.wg c d))=hp h':=Hp.ext' (fun i=>by
    show (if aF T i=true then _ else _)=_
    split
    ·rfl
    ·rename_i hi;exact (k2.out i (by simpa using hi)).1.symm) (fun i=>by
    show (if aF T i=true then _ else _)↔_
    split
    ·exact Iff.rfl
    ·rename_i hi;exact (k2.out i (by simpa using hi)).2.symm)
   rw [e] at hs
   obtain ⟨us,c1,c2,c3⟩:=yi Ui
   have hf:=jZ _ _ _ Ry
   have e2:hp h2=hp ⟨h2.t,h2.aQ,cH sg.wg d'++cH sg.rg c,h2.lk⟩:=by
    have key:∀i,¬i<cb→(hp h2).ob i=cV (cH sg.wg d'++cH sg.rg c) i∧((hp h2).fr i↔eV (cH sg.wg d'++cH sg.rg c) i):=fun i hl=>by
     cases hk:cA sg.wg (kN i) with
     | true=>
      obtain ⟨q1,x,q2⟩:=hf _ hk
      rw [(dS hl).1,(dS hl).2]
      unfold cV eV
      rw [fQ,q1,q2]
      exact ⟨rfl,Iff.rfl⟩
     | false=>
      have hw:wt T i=false:=by
       unfold wt
       rw [nJ hl,wy kw.1 hk,Bool.and_false]
      have h3:=k2.rd i hw
      have h4:=ct us (hp h') i (fun u hu e=>by
       have:=c2 u hu
       rw [←e] at this
       have this:T2.any (Nat.beq (res i))=true:=by simpa [aF,Fp.wr] using this
       rw [nJ hl,wy kw.2 hk] at this;cases this)
      rw [c1,h4.1,h4.2,h3.1,h3.2,(dS hl).1,(dS hl).2]
      show cV (cH sg.wg d++cH sg.rg c) i=_∧(eV (cH sg.wg d++cH sg.rg c) i↔_)
      unfold cV eV
      rw [fQ,fQ,cX _ _ _ hk,cX _ _ _ hk]
      exact ⟨rfl,Iff.rfl⟩
    refine Hp.ext' (fun i=>?_) (fun i=>?_)
    ·by_cases hl:i<cb
     ·show (if i<cb then _ else _)=(if i<cb then _ else _);rw [if_pos hl,if_pos hl]
     ·rw [(key i hl).1,(dS hl).1]
    ·by_cases hl:i<cb
     ·show (if i<cb then _ else _)↔(if i<cb then _ else _);rw [if_pos hl,if_pos hl]
     ·rw [(key i hl).2,(dS hl).2]
   rw [←e2,c1]
   intro g w vs hI hl hv
   refine (hs g w vs hI hl hv).mono ?_
   rintro e w' ⟨v,g',rfl,q1,q2,q3⟩
   obtain ⟨g2,z1,z2,z3⟩:=c3 g' _ w' v q2 Agree.self q1
   exact ⟨v,g2,rfl,y7 h1 g2 v z3,z1,q3.trans z2⟩
  ·cases k1
 ·cases k1
theorem C4 {P:Program} {cx:Cx} (hx:j9 P cx) (f:FuncId) (sg:cF):bt P f sg (HC cx f sg):=
 ⟨fun x c d y h=>(mN hx f sg _ _ _ y.1 y.2 h).1,fun x c d y d' h=>(mN hx f sg _ _ _ _ _ h).2⟩
end
section
open Go.RowKit
def jx:(l:List (Nat×RK))→qg l→List Rg→List Rg
 | [],_,rg=>rg
 | p::l,x,rg=>hO (jx l x.2 rg) p.1 p.2 x.1
theorem ke:∀(l:List (Nat×RK)) (rg:List Rg) (c':qg l),(∀r,cA l r=true→∃x,bl rg r=some x)→∀r,bl (jx l c' rg) r=if cA l r=true then bl (cH l c') r else bl rg r
 | [],rg,c',_,r=>by simp [jx,cA]
 | p::l,rg,c',hx,r=>by
  have ih:=ke l rg c'.2 (fun r hr=>hx r (by show (Nat.beq p.1 r || cA l r)=true;rw [hr,Bool.or_true]))
  have hp:∃x,bl (jx l c'.2 rg) p.1=some x:=by
   rw [ih]
   split
   ·rename_i hk
    exact hZ l c'.2 p.1 hk
   ·exact hx p.1 (by show (Nat.beq p.1 p.1 || cA l p.1)=true;rw [Nat.beq_refl];rfl)
  obtain ⟨x,hp⟩:=hp
  show bl (hO (jx l c'.2 rg) p.1 p.2 c'.1) r=if (Nat.beq p.1 r || cA l r)=true then (bif Nat.beq p.1 r then some (⟨p.1,p.2,c'.1⟩:Rg) else bl (cH l c'.2) r) else bl rg r
  rw [lA _ p.1 p.2 c'.1 r x hp,ih]
  by_cases hr:r=p.1
  ·subst hr;rw [if_pos rfl,Nat.beq_refl];simp
  ·have:Nat.beq p.1 r=false:=by
    cases hb:Nat.beq p.1 r with
    | false=>rfl
    | true=>exact absurd (beq_eq hb).symm hr
   rw [if_neg hr,this];simp
def cF.al (sg:cF):List (Nat×RK):=sg.wg++sg.rg
theorem AV (l k:List (Nat×RK)) (r:Nat):cA (l++k) r=(cA l r || cA k r):=List.any_append
def MM (sg:cF) (h:H):Bool:=(sg.al.all fun p=>Nat.blt p.1 64 && p.2.nQ (cA sg.al)) && (sg.wg.all fun p=>!(tV h (gB p.1))) && (sg.ps.all fun p=>nQ (cA sg.al) p.2) && (sg.rs.all fun p=>nQ (cA sg.al) p.2)
def I7 (sg:cF):Fp:=⟨false,sg.al.map fun p=>gB p.1,!sg.wg.isEmpty,sg.wg.map fun p=>gB p.1⟩
section
variable {β:Type}
def Wr (sg:cF) (F:Plain sg) (aa:List A) (h:H) (K:A→H→Fp→Option β):Option β:=match Hu sg.ps aa,vC sg.rg h.rg,vC sg.wg h.rg with
 | some x,some c,some d=>bif MM sg h then bd (F x c d) (fun p=>ze (tu sg.rs p.1) (fun v=>K v { h with rg:=jx sg.wg p.2 h.rg } (I7 sg))) else none
 | _,_,_=>none
def JD:List Nat→Fp
 | []=>.no
 | l=>.wr l
theorem ly (l:List Nat) (i:Nat):aF (JD l) i=aF (.wr l) i:=by cases l<;>rfl
theorem Hq (l:List Nat) (i:Nat) (h:wt (JD l) i=false):aF (.wr l) i=false:=by
 cases l with
 | nil=>rfl
 | cons a l=>exact qD h
def RL (sg:cF) (F:Plain sg) (aa:List A) (h:H) (K:A→H→Fp→Option β):Option β:=match yj sg.ps aa h with
 | some (uO,h1,T1)=>Wr sg F uO h1 (fun v h2 T=>K v h2 ((JD T1).cat T))
 | none=>none
theorem DU {kp:Nat→Bool} {i:Nat} (h:i<16777216):gP kp i=false:=by
 unfold gP
 rw [vi h];rfl
theorem AW {kp:Nat→Bool} {i:Nat} (h:¬i<16777216):gP kp i=kp (kN i):=by
 unfold gP
 rw [rN h];rfl
theorem sK (l:List (Nat×RK)) (r:Nat):(l.map fun p=>gB p.1).any (Nat.beq (gB r))=cA l r:=by
 induction l with
 | nil=>rfl
 | cons p l ih=>
  show (Nat.beq (gB r) (gB p.1) || (l.map fun p=>gB p.1).any (Nat.beq (gB r)))=(Nat.beq p.1 r || cA l r)
  rw [ih]
  have:Nat.beq (gB r) (gB p.1)=Nat.beq p.1 r:=by
   cases h1:Nat.beq p.1 r with
   | true=>rw [beq_eq h1];exact Nat.beq_refl _
   | false=>
    cases h2:Nat.beq (gB r) (gB p.1) with
    | false=>rfl
    | true=>
     have:p.1=r:=by have:=beq_eq h2;unfold gB at this;omega
     rw [this,Nat.beq_refl] at h1;cases h1
  rw [this]
theorem EL (l:List (Nat×RK)) (i:Nat):(l.map fun p=>gB p.1).any (Nat.beq (cE i))=false:=by
 induction l with
 | nil=>rfl
 | cons p l ih=>
  show (Nat.beq (cE i) (gB p.1) || (l.map fun p=>gB p.1).any (Nat.beq (cE i)))=false
  rw [ih,Bool.or_false]
  cases h2:Nat.beq (cE i) (gB p.1) with
  | false=>rfl
  | true=>have:=beq_eq h2;unfold gB cE at this;omega
theorem mF (sg:cF) (i:Nat):aF (I7 sg) i=gP (cA sg.al) i:=by
 have e:aF (I7 sg) i=(sg.al.map fun p=>gB p.1).any (Nat.beq (res i)):=Bool.false_or _
 rw [e]
 by_cases h:i<16777216
 ·rw [lB h,DU h];exact EL _ _
 ·rw [nJ h,AW h];exact sK _ _
theorem K_ {sg:cF} {i:Nat} (h:wt (I7 sg) i=false) (hl:¬i<16777216):cA sg.wg (kN i)=false:=by
 have e:(!sg.wg.isEmpty && (sg.wg.map fun p=>gB p.1).any (Nat.beq (res i)))=false:=h
 rw [nJ hl,sK] at e
 cases hw:sg.wg with
 | nil=>rfl
 | cons p l=>rw [hw] at e;simpa using e
theorem p_ {kp:Nat→Bool}:∀(l:List (Bool×Ty)) (x:js l),(l.all fun p=>nQ kp p.2)=true→∀a∈lr l x,VK kp a
 | [],_,_,a,ha=>by cases ha
 | p::l,x,h,a,ha=>by
  simp only [List.all_cons,zC] at h
  rcases List.mem_cons.1 ha with rfl | ha
  ·exact .pack _ h.1
  ·exact p_ l x.2 h.2 a ha
theorem oX {kp:Nat→Bool}:∀(l:List (Nat×RK)) (c:qg l),(∀p∈l,p.2.nQ kp=true)→∀r q,bl (cH l c) r=some q→q.k.nQ kp=true
 | [],c,_,r,q,h=>by cases h
 | p::l,c,hl,r,q,h=>by
  have h:(bif Nat.beq p.1 r then some (⟨p.1,p.2,c.1⟩:Rg) else bl (cH l c.2) r)=some q:=h
  cases hb:Nat.beq p.1 r with
  | true=>rw [hb] at h;cases h;exact hl p (.head _)
  | false=>rw [hb] at h;exact oX l c.2 (fun p hp=>hl p (.tail _ hp)) r q h
theorem I8 {P:Program} {f:FuncId} {sg:cF} {F:Plain sg} (hF:bt P f sg F) {aa:List A} {h:H} {K:A→H→Fp→Option β} {r:β} (hr:Wr sg F aa h K=some r):∃pv h' T,K pv h' T=some r∧ra P f aa h h' T pv:=by
 unfold Wr at hr
 split at hr
 ·rename_i x c d hx hc hd
  obtain ⟨hs,hr⟩:=af hr
  obtain ⟨⟨y,d'⟩,hy,hr⟩:=vS hr
  obtain ⟨pv,hr,nR⟩:=uW hr
  unfold MM at hs
  simp only [zC] at hs
  obtain ⟨⟨⟨JL,_⟩,hs2⟩,hs3⟩:=hs
  obtain ⟨t,aQ,lk,hpc⟩:=hF.pc x c d y d' hy
  have ZP:=jZ _ _ _ hc
  have ZO:=jZ _ _ _ hd
  have yb:=ke sg.wg h.rg d' (fun r hr=>(ZO r hr).2)
  have Rf:∀r,cA sg.al r=(cA sg.wg r || cA sg.rg r):=fun r=>AV _ _ r
  have fA:∀r,cA sg.al r=true→bl (cH sg.wg d++cH sg.rg c) r=bl h.rg r:=fun r hk=>by
   rw [fQ]
   cases hw:cA sg.wg r with
   | true=>obtain ⟨e,q,hq⟩:=ZO r hw;rw [e,hq]
   | false=>
    rw [cX _ _ _ hw]
    exact (ZP r (by rw [Rf,hw] at hk;simpa using hk)).1
  have fB:∀r,cA sg.al r=true→bl (cH sg.wg d'++cH sg.rg c) r=bl (jx sg.wg d' h.rg) r:=fun r hk=>by
   rw [fQ,yb]
   cases hw:cA sg.wg r with
   | true=>obtain ⟨q,hq⟩:=hZ sg.wg d' r hw;rw [hq];simp
   | false=>
    rw [cX _ _ _ hw]
    exact (ZP r (by rw [Rf,hw] at hk;simpa using hk)).1
  have fC:∀r,cA sg.al r=false→bl (cH sg.wg d++cH sg.rg c) r=none:=fun r hk=>by
   rw [Rf,Bool.or_eq_false_iff] at hk
   rw [fQ,cX _ _ _ hk.1]
   exact cX _ _ _ hk.2
  have fD:∀i,(¬i<cb→cA sg.wg (kN i)=false)→(hp { h with rg:=jx sg.wg d' h.rg }).ob i=(hp h).ob i∧((hp { h with rg:=jx sg.wg d' h.rg }).fr i↔(hp h).fr i):=fun i hi=>by
   show (if i<cb then et h.t i else cV (jx sg.wg d' h.rg) i)=(if i<cb then et h.t i else cV h.rg i)∧((if i<cb then h.aQ≤i else eV (jx sg.wg d' h.rg) i)↔(if i<cb then h.aQ≤i else eV h.rg i))
   by_cases hl:i<cb
   ·rw [if_pos hl,if_pos hl,if_pos hl,if_pos hl];exact ⟨rfl,Iff.rfl⟩
   ·rw [if_neg hl,if_neg hl,if_neg hl,if_neg hl]
    have:=yb (kN i)
    rw [hi hl,if_neg (by simp)] at this
    unfold cV eV
    rw [this];exact ⟨rfl,Iff.rfl⟩
  have AF:∀{i},gP (cA sg.al) i=true→¬i<cb∧cA sg.al (kN i)=true:=fun {i} hi=>by
   unfold gP at hi
   simp only [zC,Bool.not_eq_true'] at hi
   refine ⟨fun hl=>?_,hi.2⟩
   have:Nat.blt i 16777216=true:=vi hl
   rw [this] at hi;cases hi.1
  have NU:∀{i},gP (cA sg.al) i=false→¬i<cb→cA sg.al (kN i)=false:=fun {i} hi hl=>by
   rw [AW hl] at hi;exact hi
  have Zw:∀(l:List Rg),(∀r q,bl l r=some q→q.k.nQ (cA sg.al)=true)→∀i x,¬i<cb→cV l i=some x→JZ (cA sg.al) x:=fun l hl i x _ hx=>by
   unfold cV at hx
   split at hx
   ·rename_i q hq
    exact xr (hl _ q hq) hx
   ·cases hx
  have Zx:∀(d1:qg sg.wg) r q,bl (cH sg.wg d1++cH sg.rg c) r=some q→q.k.nQ (cA sg.al)=true:=fun d1 r q hq=>by
   have ib:∀p∈sg.al,p.2.nQ (cA sg.al)=true:=fun p hp=>by
    have:=List.all_eq_true.1 JL p hp
    simp only [zC] at this
    exact this.2
   rw [fQ] at hq
   split at hq
   ·rename_i q1 h1
    cases hq
    exact oX sg.wg d1 (fun p hp=>ib p (zQ _ hp)) _ _ h1
   ·exact oX sg.rg c (fun p hp=>ib p (zS _ hp)) _ _ hq
  refine ⟨pv,_,_,hr,⟨fun i hi=>fD i (fun hl=>?_),fun i hi=>fD i (fun hl=>K_ hi hl),hF.fn x c d _ hy,fun S2 hA=>?_⟩⟩
  ·rw [mF] at hi
   have:=NU hi hl
   rw [Rf,Bool.or_eq_false_iff] at this
   exact this.1
  ·have On:=PC.frame (kp:=cA sg.al) (S:=S2) (fun i hi=>?_) (fun i hi=>?_) (fun i q hq=>?_) (fun i q hi hq=>?_) (p_ sg.ps x hs2) (r:=tu sg.rs y) ?_ hpc
   ·have e:Hp.join (cA sg.al) (hp ⟨t,aQ,cH sg.wg d'++cH sg.rg c,lk⟩) S2=gL (I7 sg) (hp { h with rg:=jx sg.wg d' h.rg }) S2:=by
     refine Hp.ext' (fun i=>?_) (fun i=>?_)
     ·show (if gP (cA sg.al) i=true then _ else _)=(if aF (I7 sg) i=true then _ else _)
      rw [mF]
      by_cases hi:gP (cA sg.al) i=true
      ·obtain ⟨n1,n2⟩:=AF hi
       rw [if_pos hi,if_pos hi,(dS n1).1,(dS n1).1]
       unfold cV
       rw [fB _ n2]
      ·rw [if_neg hi,if_neg hi]
     ·show (if gP (cA sg.al) i=true then _ else _)↔(if aF (I7 sg) i=true then _ else _)
      rw [mF]
      by_cases hi:gP (cA sg.al) i=true
      ·obtain ⟨n1,n2⟩:=AF hi
       rw [if_pos hi,if_pos hi,(dS n1).2,(dS n1).2]
       unfold eV
       rw [fB _ n2]
      ·rw [if_neg hi,if_neg hi]
    rw [e] at On
    obtain ⟨u1,u2⟩:=rh _ _ _ hx
    intro g w vs hI hl hv
    refine (On g w vs hI (by rw [←u1];exact hl) (fun i p v e1 e2=>?_)).mono ?_
    ·have hi:i<aa.length:=by rw [u1];exact (zB.1 e1).1
     exact u2 i _ p (zD hi) e1 g v (hv i _ v (zD hi) e2)
    ·rintro e w' ⟨v,g',rfl,q1,q2,q3⟩
     exact ⟨v,g',rfl,nR g' v q1,q2,q3⟩
   ·by_cases hl:i<cb
    ·show (if i<cb then et .nil i else _)=none
     rw [if_pos hl];rfl
    ·rw [(dS hl).1]
     show cV (cH sg.wg d++cH sg.rg c) i=none
     unfold cV
     rw [fC _ (NU hi hl)]
   ·obtain ⟨n1,n2⟩:=AF hi
    obtain ⟨a1,a2⟩:=hA i (by rw [mF];exact hi)
    rw [a1,a2,(dS n1).1,(dS n1).2,(dS n1).1,(dS n1).2]
    show cV h.rg i=cV (cH sg.wg d++cH sg.rg c) i∧(eV h.rg i↔eV (cH sg.wg d++cH sg.rg c) i)
    unfold cV eV
    rw [fA _ n2];exact ⟨rfl,Iff.rfl⟩
   ·by_cases hl:i<cb
    ·have hq:(if i<cb then et .nil i else _)=some q:=hq
     rw [if_pos hl] at hq;cases hq
    ·rw [(dS hl).1] at hq
     exact Zw _ (Zx d) i q hl hq
   ·rw [(dS (AF hi).1).1] at hq
    exact Zw _ (Zx d') i q (AF hi).1 hq
   ·have ib:=p_ (kp:=cA sg.al) sg.rs y hs3
    unfold tu
    generalize lr sg.rs y=ps at ib
    match ps,ib with
    | [p],ib=>exact ib p (.head _)
    | [],ib=>exact .il ib
    | p::q::ps,ib=>exact .il ib
 ·cases hr
theorem I9 {P:Program} {f:FuncId} {sg:cF} {F:Plain sg} (hF:bt P f sg F) {aa:List A} {h:H} {K:A→H→Fp→Option β} {r:β} (hr:RL sg F aa h K=some r):∃pv h' T,K pv h' T=some r∧ra P f aa h h' T pv:=by
 unfold RL at hr
 split at hr
 ·rename_i uO h1 T1 D_
  obtain ⟨pv,h2,T,k1,k2⟩:=I8 hF hr
  obtain ⟨hl,us,c1,c2,c3⟩:=sw D_
  have out:∀i,aF (JD T1) i=false→(hp h1).ob i=(hp h).ob i∧((hp h1).fr i↔(hp h).fr i):=fun i hi=>by
   rw [c1];exact ct us _ i (fun u hu e=>by rw [ly,e,c2 u hu] at hi;cases hi)
  have f1:lV h h1 (JD T1):=⟨out,fun i hi=>out i ((ly T1 i).trans (Hq T1 i hi))⟩
  have f2:lV h1 h2 T:=⟨k2.out,k2.rd⟩
  refine ⟨pv,h2,_,k1,(f1.trans f2).out,(f1.trans f2).rd,k2.fn,fun S2 hA=>?_⟩
  rw [←eL f2]
  have A1:=hA.left
  have A2:=Agree.right f1 hA
  have e:gL (JD T1) (hp h1) S2=app us S2:=by rw [c1];exact fS (fun u hu=>(ly T1 _).trans (c2 u hu)) A1
  rw [e] at A2 ⊢
  intro g w vs hI Rv hv
  obtain ⟨g1,q1,q2,q3⟩:=c3 g S2 w vs hI (fun i hi=>A1 i ((ly T1 i).trans hi)) Rv hv
  refine (k2.ok _ A2 g1 w vs q1 (by rw [hl];exact Rv) q3).mono ?_
  rintro e w' ⟨v,g',rfl,z1,z2,z3⟩
  exact ⟨v,g',rfl,z1,z2,q2.trans z3⟩
 ·cases hr
end
end
section
open Go.RowKit
def stay (N i:Nat):Prop:=i<N∨¬i<cb
structure vW (N:Nat) (g g':G):Prop where
 bg:∀i,stay N i→g'.bg i=g.bg i
 mem:g'.mem=g.mem
 lp:g'.lp=g.lp
def VP (N:Nat) (c:A):Prop:=∀g g' v,vW N g g'→V g c v→V g' c v
def Cz (N:Nat):Ref→Bool
 | .loc o=>Nat.blt o N
 | .dq _ _=>true
theorem kg {N:Nat} {x:Ref} (h:Cz N x=true) {g g':G} (k:vW N g g'):g'.bg x.id=g.bg x.id:=by
 cases x with
 | loc o=>exact k.bg o (.inl (aU h))
 | dq r j=>exact k.bg _ (.inr (Nat.not_lt.2 (mh r j)))
def okF (p:A→Bool):Nat→Tr A→Bool
 | 0,_=>true
 | n+1,F=>p (aT F.get n) && okF p n F
theorem Az {p:A→Bool} {F:Tr A}:∀{n:Nat},okF p n F=true→∀i,i<n→p (aT F.get i)=true
 | n+1,h,i,hi=>by
  have h:(p (aT F.get n) && okF p n F)=true:=h
  rw [zC] at h
  by_cases e:i=n
  ·rw [e];exact h.1
  ·exact Az h.2 i (by omega)
def rL (N:Nat):Nat→A→Bool
 | 0,_=>false
 | k+1,a=>match a with
  | .agg cs=>cs.all (rL N k)
  | .il cs=>cs.all (rL N k)
  | .fn _ fi ca=>fi.all (rL N k) && ca.all (rL N k)
  | .ptr o _=>Nat.blt o N
  | .tp x _=>Cz N x
  | .sl o _ _ _=>Nat.blt o N
  | .ts x _ _ _=>Cz N x
  | .tf x _ _ _=>Cz N x
  | .tw x _=>Cz N x
  | .aa x _ _ _=>Cz N x
  | .mp x=>Cz N x
  | .qd q n F _ _ _ _=>Nat.blt q N && okF (rL N k) n F
  | _=>true
theorem VP.tp {N:Nat} {x:Ref} {π:List Sp} (h:Cz N x=true):VP N (.tp x π):=fun g g' v k hv=>by
 cases hv with
 | tp _ _ b s h1 hk=>exact .tp x π b s ((kg h k).trans h1) hk
theorem VP.tw {N:Nat} {x:Ref} {z:Nat} (h:Cz N x=true):VP N (.tw x z):=fun g g' v k hv=>by
 cases hv with
 | qE _ _ ad h1=>exact .qE x z ad ((kg h k).trans h1)
 | tw _ _ n b cap t h1 hn hx hp d hd=>exact .tw x z n b cap t ((kg h k).trans h1) hn hx hp d hd
theorem VP.e0 {N:Nat}:VP N .e0:=fun g g' v k hv=>by cases hv;exact .e0 _
theorem VP.mp {N:Nat} {x:Ref} (h:Cz N x=true):VP N (.mp x):=fun g g' v k hv=>by
 cases hv with
 | mp _ b s h1=>exact .mp x b s ((kg h k).trans h1)
theorem fg {N:Nat}:∀(k:Nat) (a:A),rL N k a=true→VP N a
 | 0,_,h=>by cases h
 | k+1,.v x,_=>fun g g' v _ hv=>by cases hv;exact .v _
 | k+1,.agg cs,h=>fun g g' v hg hv=>by
  have h:cs.all (rL N k)=true:=h
  rw [List.all_eq_true] at h
  cases hv with
  | agg _ vs hl h1 hh=>exact .agg cs vs hl h1 (fun i c x e1 e2=>fg k c (h c (zG e1)) g g' x hg (hh i c x e1 e2))
 | k+1,.il cs,h=>fun g g' v hg hv=>by
  have h:cs.all (rL N k)=true:=h
  rw [List.all_eq_true] at h
  cases hv with
  | il _ vs hl hh=>exact .il cs vs hl (fun i c x e1 e2=>fg k c (h c (zG e1)) g g' x hg (hh i c x e1 e2))
 | k+1,.fn f fi ca,h=>fun g g' v hg hv=>by
  have h:(fi.all (rL N k) && ca.all (rL N k))=true:=h
  rw [zC,List.all_eq_true,List.all_eq_true] at h
  cases hv with
  | fn _ _ _ fv cv hf hc h1 h2=>exact .fn f fi ca fv cv hf hc (fun i c x e1 e2=>fg k c (h.1 c (zG e1)) g g' x hg (h1 i c x e1 e2)) (fun i c x e1 e2=>fg k c (h.2 c (zG e1)) g g' x hg (h2 i c x e1 e2))
 | k+1,.ptr o off,h=>fun g g' v hg hv=>by
  cases hv with
  | ptr _ _ b s h1=>exact .ptr o off b s ((hg.bg o (.inl (aU h))).trans h1)
 | k+1,.tp x π,h=>.tp h
 | k+1,.sl o off z n,h=>fun g g' v hg hv=>by
  cases hv with
  | sl _ _ _ _ b cap s h1 hn hx hs=>exact .sl o off z n b cap s ((hg.bg o (.inl (aU h))).trans h1) hn hx hs
 | k+1,.ts x z off n,h=>fun g g' v hg hv=>by
  cases hv with
  | ts _ _ _ _ b cap s h1 hn hx hs hp d hd hq=>exact .ts x z off n b cap s ((kg h hg).trans h1) hn hx hs hp d hd hq
  | qG _ _ _ _ ad h1 hn=>exact .qG x z off n ad ((kg h hg).trans h1) hn
 | k+1,.tf x z off n,h=>fun g g' v hg hv=>by
  cases hv with
  | tf _ _ _ _ b s h1 hx hs d hd=>exact .tf x z off n b s ((kg h hg).trans h1) hx hs d hd
  | zc _ _ _ _ ad h1 hn=>exact .zc x z off n ad ((kg h hg).trans h1) hn
 | k+1,.tw x z,h=>.tw h
 | k+1,.aa x π n z,h=>fun g g' v hg hv=>by
  cases hv with
  | aa _ _ _ _ b cap s h1 hk hn hx=>exact .aa x π n z b cap s ((kg h hg).trans h1) hk hn hx
 | k+1,.e0,_=>.e0
 | k+1,.tl t f l,_=>fun g g' v hg hv=>by
  cases hv with
  | tl _ _ _ _ h=>exact .tl t f l v (by rw [hg.mem];exact h)
 | k+1,.nn t l,_=>fun g g' v hg hv=>by
  cases hv with
  | nn _ _ a n c h=>exact .nn t l a n c (by rw [hg.mem];exact h)
 | k+1,.dp t x,_=>fun g g' v hg hv=>by
  cases hv with
  | dp _ _ b off f hm=>exact .dp t x b off f (fun j c e=>by rw [hg.mem];exact hm j c e)
 | k+1,.mp x,h=>.mp h
 | k+1,.op r o,_=>fun g g' v hg hv=>by
  cases hv with
  | op _ _ _ h0 h1=>exact .op r o v h0 (fun j e=>VP.tp (N:=N) (x:=.dq r j) rfl g g' v hg (h1 j e))
 | k+1,.os r z o,_=>fun g g' v hg hv=>by
  cases hv with
  | os _ _ _ _ h0 h1=>exact .os r z o v (fun e=>VP.e0 (N:=N) g g' v hg (h0 e)) (fun j e=>VP.tw (N:=N) (x:=.dq r j) rfl g g' v hg (h1 j e))
 | k+1,.om r o,_=>fun g g' v hg hv=>by
  cases hv with
  | om _ _ _ h0 h1=>exact .om r o v h0 (fun j e=>VP.mp (N:=N) (x:=.dq r j) rfl g g' v hg (h1 j e))
 | k+1,.qd q n F ps j aa bd,h=>fun g g' v hg hv=>by
  have h:(Nat.blt q N && okF (rL N k) n F)=true:=h
  rw [zC] at h
  cases hv with
  | qd _ _ _ _ _ _ _ b s l h0 hl h1 h2 h3 h4 h5=>exact .qd q n F ps j aa bd b s l ((hg.bg q (.inl (aU h.1))).trans h0) (by rw [hg.lp];exact hl) h1 h2 h3 h4 (fun i hi=>fg k _ (Az h.2 i hi) g g' _ hg (h5 i hi))
 | k+1,.un,_=>fun g g' v _ hv=>by cases hv;exact .un
 | k+1,.b8,_=>fun g g' v _ _=>.b8 v
theorem gZ {N:Nat}:∀(t:Ty) (x:t.T),∀c∈aA t x,VP N c
 | .int k,x,c,h=>by rcases zF.1 h with rfl;exact fg 1 _ rfl
 | .bool,x,c,h=>by rcases zF.1 h with rfl;exact fg 1 _ rfl
 | .unit,_,c,h=>by cases h
 | .pair a b,x,c,h=>(zX.1 h).elim (gZ a x.1 c) (gZ b x.2 c)
 | .arr n t,l,c,h=>by
  obtain ⟨i,_,h⟩:=List.mem_flatMap.1 h
  exact gZ t _ c h
 | .aH t,l,c,h=>by rcases zF.1 h with rfl;exact fg 1 _ rfl
 | .ptr r,x,c,h=>by rcases zF.1 h with rfl;exact fg 1 _ rfl
 | .cC r,j,c,h=>by rcases zF.1 h with rfl;exact fg 1 _ rfl
 | .iL r z,x,c,h=>by rcases zF.1 h with rfl;exact fg 1 _ rfl
 | .nu r z,j,c,h=>by rcases zF.1 h with rfl;exact fg 1 _ rfl
 | .mp r,x,c,h=>by rcases zF.1 h with rfl;exact fg 1 _ rfl
theorem mS {N:Nat} (a:Bool) (t:Ty) (x:t.T):VP N (bM a t x):=by
 unfold bM
 have h:=gZ (N:=N) t x
 cases a with
 | true=>
  intro g g' v hg hv
  cases hv with
  | agg _ vs hl h1 hh=>exact .agg _ vs hl h1 (fun i c y e1 e2=>h c (zG e1) g g' y hg (hh i c y e1 e2))
 | false=>
  generalize aA t x=cs at h
  match cs,h with
  | [c],h=>exact h c (.head _)
  | [],_=>exact fun g g' v _ _=>.b8 v
  | _::_::_,_=>exact fun g g' v _ _=>.b8 v
def CA (N:Nat):Ob→Prop
 | .cells cs=>∀c∈cs,VP N c
 | .cl (.map es)=>∀e∈es,VP N e.1∧VP N e.2
 | .cl .w6=>True
 | .cl (.loop _ _)=>True
theorem z7 {N:Nat} {k:RK} {c:k.T} {j:Nat} {x:Ob} (h:cU k c j=some x):CA N x:=by
 cases k with
 | box t=>
  simp only [cU] at h
  split at h
  ·cases h;exact gZ t _
  ·cases h
 | row t=>
  simp only [cU] at h
  split at h
  ·cases h;exact fun c hc=>by obtain ⟨y,_,hy⟩:=List.mem_flatMap.1 hc;exact gZ t y c hy
  ·cases h
 | map ka tk va tv=>
  simp only [cU] at h
  split at h
  ·cases h;exact fun e he=>by obtain ⟨y,_,rfl⟩:=List.mem_map.1 he;exact ⟨mS _ _ _,mS _ _ _⟩
  ·cases h
def Uy (g:G):Option (Option Nat)→Option (Option Nat×(Nat×Nat))
 | some (some o)=>g.bg o
 | some none=>some (none,(0,0))
 | none=>none
def gj (N:Nat) (names:List (Option Nat)) (g:G):G:=⟨fun i=>if i<N∨¬i<cb then g.bg i else Uy g names[i-N]?,g.mem,g.lp⟩
theorem Bz (N:Nat) (names:List (Option Nat)) (g:G):vW N g (gj N names g):=⟨fun i h=>if_pos h,rfl,rfl⟩
theorem uc {N:Nat} {names:List (Option Nat)} {g:G} {k:Nat} {nm:Option Nat} (h:names[k]?=some nm) (hl:N+names.length≤cb):(gj N names g).bg (N+k)=Uy g (some nm):=by
 have hk:=(zB.1 h).1
 show (if N+k<N∨¬N+k<cb then g.bg (N+k) else _)=_
 rw [if_neg (by omega),Nat.add_sub_cancel_left,h]
theorem lv.to {g g':G} {w:World} {b t:Nat} {cs:List A} (h:lv g w b t cs) {N:Nat} (hs:vW N g g') (hc:∀c∈cs,VP N c):lv g' w b t cs:=by
 obtain ⟨cur,ty,k1,k2,k3,k4⟩:=h
 exact ⟨cur,ty,k1,k2,k3,fun j c x e1 e2=>⟨hc c (zG e1) g g' x hs (k4 j c x e1 e2).1,(k4 j c x e1 e2).2⟩⟩
theorem nk.to {g g':G} {x:JY} {ob:Obj} (h:nk g x ob) {N:Nat} (hs:vW N g g') (hc:CA N (.cl x)):nk g' x ob:=by
 cases x with
 | map es=>
  obtain ⟨ia,clock,k1,k2,k3⟩:=h
  exact ⟨ia,clock,k1,k2,fun i e q e1 e2=>⟨(hc q (zG e2)).1 g g' _ hs (k3 i e q e1 e2).1,(hc q (zG e2)).2 g g' _ hs (k3 i e q e1 e2).2⟩⟩
 | w6=>exact h
 | loop=>exact h
theorem HE {N:Nat} {names:List (Option Nat)} {S S' S0:Hp} {g g0:G} {w w0:World} (hl:N+names.length≤cb)
  (h1:∀i x,stay N i→S'.ob i=some x→(S.ob i=some x∧CA N x)∨∃cs gz,S.ob i=some (.cells cs)∧x = .cells gz∧gz.length=cs.length∧∀vs,Vs g cs vs→Vs (gj N names g) gz vs)
  (h2:∀i x,¬stay N i→S'.ob i=some x→∃k nm,i=N+k∧names[k]?=some nm∧(∀o,nm=some o→S.ob o=some x∧CA N x)∧(nm=none→x = .cells []))
  (h3:∀(k k' o:Nat),names[k]?=some (some o)→names[k']?=some (some o)→k=k')
  (h4:∀(k o:Nat),names[k]?=some (some o)→stay N o→S'.ob o=none)
  (h5:∀i,S'.fr i→(¬stay N i→N+names.length≤i)∧(stay N i→S.fr i))
  (hf:∀o,N≤o→o<cb→S0.fr o∧g0.bg o=none) (hI:Inv g S w) (hE:Ext S0 g0 w0 S g w) :
  Inv (gj N names g) S' w∧Ext S0 g0 w0 S' (gj N names g) w:=by
 have hs:=Bz N names g
 have ns:∀{i},¬stay N i→N≤i∧i<cb:=fun {i} h=>by unfold stay at h;omega
 have OI:∀i,¬stay N i→(gj N names g).bg i=Uy g names[i-N]?:=fun i h=>if_neg h
 have src:∀i x b s,S'.ob i=some x→(gj N names g).bg i=some (some b,s)→∃o y,S.ob o=some y∧g.bg o=some (some b,s)∧(i=o∧stay N i∨¬stay N i∧∃k,i=N+k∧names[k]?=some (some o)):=fun i x b s e1 e2=>by
  by_cases hi:stay N i
  ·rcases h1 i x hi e1 with ⟨q1,q2⟩ | ⟨cs,gz,q1,_,_⟩
   ·exact ⟨i,x,q1,by rw [←hs.bg i hi];exact e2,.inl ⟨rfl,hi⟩⟩
   ·exact ⟨i,_,q1,by rw [←hs.bg i hi];exact e2,.inl ⟨rfl,hi⟩⟩
  ·obtain ⟨k,nm,rfl,hk,q1,q2⟩:=h2 i x hi e1
   rw [uc hk hl] at e2
   cases nm with
   | none=>cases e2
   | some o=>exact ⟨o,x,(q1 o rfl).1,e2,.inr ⟨hi,k,rfl,hk⟩⟩
 have inj:∀i j x y b s s',S'.ob i=some x→S'.ob j=some y→(gj N names g).bg i=some (some b,s)→(gj N names g).bg j=some (some b,s')→i=j:=fun i j x y b s s' e1 e2 k1 k2=>by
  obtain ⟨o1,x1,p1,p3,p4⟩:=src i x b s e1 k1
  obtain ⟨o2,x2,q1,q3,q4⟩:=src j y b s' e2 k2
  have ho:=hI.inj o1 o2 x1 x2 b s s' p1 q1 p3 q3
  subst ho
  rcases p4 with ⟨rfl,p5⟩ | ⟨p5,k,rfl,p6⟩
  ·rcases q4 with ⟨rfl,_⟩ | ⟨q5,k',rfl,q6⟩
   ·rfl
   ·rw [h4 k' i q6 p5] at e1;cases e1
  ·rcases q4 with ⟨rfl,q5⟩ | ⟨q5,k',rfl,q6⟩
   ·rw [h4 k j p6 q5] at e2;cases e2
   ·rw [h3 k k' o1 p6 q6]
 refine ⟨⟨fun i cs e=>?_,fun i x e=>?_,fun i e=>?_,fun i b s e=>?_,inj,hI.mem,fun i b s j x e k=>?_,hI.lp⟩,⟨⟨fun o p e=>?_,fun _ _ _ e=>hE.le.mem _ _ _ e,fun _ _ e=>hE.le.lp _ _ e⟩,hE.os,hE.tape,hE.output,hE.size,hE.frame,fun k ⟨i,s,x,e1,e2⟩=>?_,fun o p e=>?_,fun o e=>?_,hE.rP,hE.lpo⟩⟩
 ·by_cases hi:stay N i
  ·rw [hs.bg i hi]
   rcases h1 i _ hi e with ⟨q1,q2⟩ | ⟨ds,g_,q1,q2,q3,q4⟩
   ·exact (hI.cells i cs q1).imp id fun ⟨b,t,k1,k2⟩=>⟨b,t,k1,k2.to hs q2⟩
   ·cases q2
    rcases hI.cells i ds q1 with ⟨k1,k2⟩ | ⟨b,t,k1,cur,ty,k2,k3,k4⟩
    ·exact .inl ⟨k1,List.length_eq_zero_iff.1 (by rw [q3,k2];rfl)⟩
    ·exact .inr ⟨b,t,by rw [q3];exact k1,cur,ty,k2,k3,by rw [q3];exact q4 _ k4⟩
  ·obtain ⟨k,nm,rfl,hk,q1,q2⟩:=h2 i _ hi e
   rw [uc hk hl]
   cases nm with
   | none=>
    have:=q2 rfl
    cases this
    exact .inl ⟨rfl,rfl⟩
   | some o=>
    obtain ⟨q3,q4⟩:=q1 o rfl
    exact (hI.cells o cs q3).imp id fun ⟨b,t,k1,k2⟩=>⟨b,t,k1,k2.to hs q4⟩
 ·by_cases hi:stay N i
  ·rcases h1 i _ hi e with ⟨q1,q2⟩ | ⟨ds,g_,q1,q2,q3⟩
   ·obtain ⟨b,s,ob,k1,k2,k3⟩:=hI.cl i x q1
    exact ⟨b,s,ob,(hs.bg i hi).trans k1,k2,k3.to hs q2⟩
   ·cases q2
  ·obtain ⟨k,nm,rfl,hk,q1,q2⟩:=h2 i _ hi e
   cases nm with
   | none=>have:=q2 rfl;cases this
   | some o=>
    obtain ⟨q3,q4⟩:=q1 o rfl
    obtain ⟨b,s,ob,k1,k2,k3⟩:=hI.cl o x q3
    exact ⟨b,s,ob,(uc hk hl).trans k1,k2,k3.to hs q4⟩
 ·obtain ⟨q1,q2⟩:=h5 i e
  by_cases hi:stay N i
  ·rw [hs.bg i hi];exact hI.fresh i (q2 hi)
  ·rw [OI i hi,zb (by have:=q1 hi;omega)];rfl
 ·by_cases hi:stay N i
  ·rw [hs.bg i hi] at e;exact hI.lt i b s e
  ·rw [OI i hi] at e
   generalize names[i-N]?=nm at e
   match nm,e with
   | some (some o),e=>exact hI.lt o b s e
 ·obtain ⟨o,y,p1,p3,_⟩:=src i x b s e k
  exact hI.kh o b s j y p1 p3
 ·have hi:stay N o:=by
   by_cases hi:stay N o
   ·exact hi
   ·obtain ⟨a1,a2⟩:=ns hi
    rw [(hf o a1 a2).2] at e;cases e
  rw [hs.bg o hi];exact hE.le.bg o p e
 ·obtain ⟨o,y,p1,p3,_⟩:=src i x k s e1 e2
  exact hE.own k ⟨o,s,y,p1,p3⟩
 ·by_cases hi:stay N o
  ·rw [hs.bg o hi] at e;exact hE.G6 o p e
  ·obtain ⟨a1,a2⟩:=ns hi
   exact .inr ⟨(hf o a1 a2).2,(hf o a1 a2).1⟩
 ·by_cases hi:stay N o
  ·exact hE.fr o ((h5 o e).2 hi)
  ·obtain ⟨a1,a2⟩:=ns hi
   exact (hf o a1 a2).1
end
end Go.Bm