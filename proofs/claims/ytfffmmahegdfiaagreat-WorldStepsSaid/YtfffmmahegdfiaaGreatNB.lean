/- Texts of one proof, put together: see each part. -/
import Derived.Test.YtfffmmahegdfiaaGreatNA
set_option maxHeartbeats 2000000
noncomputable section
set_option linter.unusedVariables false
set_option linter.unusedSimpArgs false
namespace Go.Bm
section
open Go.RowKit
theorem lF {s:Nat}:∀(π σ:List Sp),BK s (π++σ)↔BK s π∧BK s σ
 | [],σ=>⟨fun h=>⟨trivial,h⟩,fun h=>h.2⟩
 | .fst::π,σ=>lF π σ
 | .snd _::π,σ=>lF π σ
 | .ix _ _::π,σ=>(and_congr_right fun _=>lF π σ).trans and_assoc.symm
 | .ai _ _ _::π,σ=>(and_congr_right fun _=>lF π σ).trans and_assoc.symm
theorem jW:∀(π σ:List Sp),dy (π++σ)=dy π+dy σ
 | [],σ=>(Nat.zero_add _).symm
 | .fst::π,σ=>jW π σ
 | .snd c::π,σ=>by show c+dy (π++σ)=c+dy π+dy σ;rw [jW π σ,Nat.add_assoc]
 | .ix i z::π,σ=>by show i*z+dy (π++σ)=i*z+dy π+dy σ;rw [jW π σ,Nat.add_assoc]
 | .ai i n z::π,σ=>by show i*z+dy (π++σ)=i*z+dy π+dy σ;rw [jW π σ,Nat.add_assoc]
section
variable {P:Program} {E:Env} {o:Oper} {ρ:Operand→A} {h:H} {β:Type} {K:A→H→Fp→Option β} {r:β}
theorem Step.BQ {h h':H} {T:Fp} {pv EZ:A} (k:Step P o ρ h h' T pv) (hv:∀g v,V g pv v→V g EZ v):Step P o ρ h h' T EZ where
 out:=k.out
 rd:=k.rd
 ok:=fun S2 hS=>fun r g w a next Q hI hx K'=>k.ok S2 hS r g w a next Q hI hx (fun v g' w' h1 h2 h3=>K' v g' w' (hv _ _ h1) h2 h3)
def B3 (v:A) (k:A→Option β):Option β:=match v with
 | .op r o=>opt o (k (.v (.pointer none))) (fun j=>k (.tp (.eF r j) []))
 | .os r z o=>opt o (k .e0) (fun j=>k (.tw (.eF r j) z))
 | .om r o=>opt o (k (.v (.map none))) (fun j=>k (.mp (.eF r j)))
 | v=>k v
theorem wZ {v:A} {k:A→Option β} (hr:B3 v k=some r):∃v',k v'=some r∧∀g x,V g v x→V g v' x:=by
 unfold B3 at hr
 split at hr
 ·rcases ic hr with ⟨e,h1⟩ | ⟨j,e,h1⟩
  ·exact ⟨_,h1,fun g x hv=>by cases hv with | op _ _ _ h0 _=>rw [h0 e];exact .v _⟩
  ·exact ⟨_,h1,fun g x hv=>by cases hv with | op _ _ _ _ h0=>exact h0 j e⟩
 ·rcases ic hr with ⟨e,h1⟩ | ⟨j,e,h1⟩
  ·exact ⟨_,h1,fun g x hv=>by cases hv with | os _ _ _ _ h0 _=>exact h0 e⟩
  ·exact ⟨_,h1,fun g x hv=>by cases hv with | os _ _ _ _ _ h0=>exact h0 j e⟩
 ·rcases ic hr with ⟨e,h1⟩ | ⟨j,e,h1⟩
  ·exact ⟨_,h1,fun g x hv=>by cases hv with | om _ _ _ h0 _=>rw [h0 e];exact .v _⟩
  ·exact ⟨_,h1,fun g x hv=>by cases hv with | om _ _ _ _ h0=>exact h0 j e⟩
 ·exact ⟨_,hr,fun g x hv=>hv⟩
def Out (P:Program) (o:Oper) (ρ:Operand→A) (h:H) (K:A→H→Fp→Option β) (r:β):Prop:=∃pv h' T,K pv h' T=some r∧Step P o ρ h h' T pv
theorem Out.pure {v:A} (hr:K v h .no=some r) (k:∀S2,eX P o ρ S2 S2 v) (hd:∀c,o.op≠.defer c):Out P o ρ h K r:=⟨v,h,.no,hr,.pure k hd⟩
theorem Out.read {v:A} (T:List Nat) (hr:K v h (.rd T)=some r) (k:∀S2,Agree (.rd T) (hp h) S2→eX P o ρ S2 S2 v) (hd:∀c,o.op≠.defer c):Out P o ρ h K r:=⟨v,h,.rd T,hr,.read _ k hd⟩
theorem Out.sp {h':H} {T:Fp} {v:A} (hr:B3 v (fun v=>K v h' T)=some r) (k:Step P o ρ h h' T v):Out P o ρ h K r:=by
 obtain ⟨v',h1,h2⟩:=wZ hr
 exact ⟨v',h',T,h1,k.BQ h2⟩
def mvK (x:A) (h:H) (K:A→H→Fp→Option β):Option β:=K x h .no
def Lk (px:A) (ix:Nat) (h:H) (K:A→H→Fp→Option β):Option β:=match px with
 | .jt cs=>match cs[ix]? with
  | some p=>B3 p (fun v=>K v h .no)
  | none=>none
 | _=>none
theorem He {x:Operand} {ix:Nat} (ho:o.op = .extract x ix) (hr:Lk (ρ x) ix h K=some r):Out P o ρ h K r:=by
 unfold Lk at hr
 split at hr
 ·rename_i cs hx
  split at hr
  ·rename_i p hp
   exact .sp hr (.pure (fun S2=>vv ho hx hp) (by rw [ho];intro c e;cases e))
  ·cases hr
 ·cases hr
def CF (px py pz:A) (h:H) (K:A→H→Fp→Option β):Option β:=match px with
 | .v (.bool b)=>br b (K py h .no) (K pz h .no)
 | _=>none
theorem CE {x y z:Operand} (ho:o.op = .pick x y z) (hr:CF (ρ x) (ρ y) (ρ z) h K=some r):Out P o ρ h K r:=by
 unfold CF at hr
 split at hr
 ·rename_i b hx
  rcases pB hr with ⟨rfl,h1⟩ | ⟨rfl,h1⟩
  ·exact .pure h1 (fun S2=>by have:=vr (P:=P) (S:=S2) ho hx;simpa using this) (by rw [ho];intro c e;cases e)
  ·exact .pure h1 (fun S2=>by have:=vr (P:=P) (S:=S2) ho hx;simpa using this) (by rw [ho];intro c e;cases e)
 ·cases hr
def TK (op:BinOp) (k:IntKind) (m n:Int) (K:Value→Option β):Option β:=match op with
 | .add=>K (.int k (ae k m n))
 | .sub=>K (.int k (aE k m n))
 | .mul=>K (.int k (dG k m n))
 | .quo=>gd (E4 n) (K (.int k (AQ k m n)))
 | .rem=>gd (E4 n) (K (.int k (bO m n)))
 | .and=>K (.int k (bits .and k m n))
 | .or=>K (.int k (bits .or k m n))
 | .xor=>K (.int k (bits .xor k m n))
 | .andNot=>K (.int k (bits .andNot k m n))
 | .eql=>K (.bool (af m n))
 | .neq=>K (.bool (ax (af m n)))
 | .lss=>K (.bool (aY m n))
 | .leq=>K (.bool (dn m n))
 | .gtr=>K (.bool (aY n m))
 | .geq=>K (.bool (dn n m))
 | _=>none
theorem Hw {op:BinOp} {k:IntKind} {m n:Int} {K:Value→Option β} (hr:TK op k m n K=some r):∃v,K v=some r∧GK op k m n=some v:=by
 cases op with
 | quo=>
  obtain ⟨h1,h2⟩:=bA (show gd (E4 n) (K (.int k (AQ k m n)))=some r from hr)
  exact ⟨_,h2,if_neg h1⟩
 | rem=>
  obtain ⟨h1,h2⟩:=bA (show gd (E4 n) (K (.int k (bO m n)))=some r from hr)
  exact ⟨_,h2,if_neg h1⟩
 | _=>first | exact ⟨_,hr,rfl⟩ | cases hr
def shI (op:BinOp) (k:IntKind) (m n:Int) (K:Value→Option β):Option β:=match op with
 | .shl=>gd (bn n) (K (.int k (lv k m n)))
 | .shr=>gd (bn n) (K (.int k (jy k m n)))
 | _=>none
theorem J5 {op:BinOp} {k:IntKind} {m n:Int} {K:Value→Option β} (hr:shI op k m n K=some r):∃v,K v=some r∧xk op k m n=some v:=by
 cases op with
 | shl=>
  obtain ⟨h1,h2⟩:=bA (show gd (bn n) (K (.int k (lv k m n)))=some r from hr)
  exact ⟨_,h2,if_neg (by unfold bn at h1;omega)⟩
 | shr=>
  obtain ⟨h1,h2⟩:=bA (show gd (bn n) (K (.int k (jy k m n)))=some r from hr)
  exact ⟨_,h2,if_neg (by unfold bn at h1;omega)⟩
 | _=>cases hr
def Jp:BinOp→Bool
 | .shl=>true
 | .shr=>true
 | _=>false
def isEq:BinOp→Bool
 | .eql=>true
 | .neq=>true
 | _=>false
theorem lx {op:BinOp} (h:isEq op=true):op = .eql∨op = .neq:=by cases op<;>first | exact .inl rfl | exact .inr rfl | cases h
def AI (op:BinOp) (b:Bool):Bool:=match op with
 | .eql=>b
 | _=>ax b
theorem oi {op:BinOp} (b:Bool) (h:isEq op=true):AI op b=if op = .eql then b else !b:=by
 rcases lx h with rfl | rfl<;>rfl
def AH (p q:A):Option Bool:=match q with
 | .v (.slice none 0 0)=>match p with
  | .v (.slice none _ _)=>some true
  | .nn _ _=>some false
  | .aa _ _ _ _=>some false
  | .sl _ _ _ _=>some false
  | _=>none
 | _=>none
theorem Gn {g:G} {p q:A} {u v:Value} {b:Bool} (h:AH p q=some b) (hp:V g p u) (hq:V g q v):v = .slice none 0 0∧∃A n c,u = .slice A n c∧A.isNone=b:=by
 unfold AH at h
 split at h
 ·cases hq
  refine ⟨rfl,?_⟩
  split at h
  ·cases h;cases hp;exact ⟨_,_,_,rfl,rfl⟩
  ·cases h;cases hp;exact ⟨_,_,_,rfl,rfl⟩
  ·cases h;cases hp;exact ⟨_,_,_,rfl,rfl⟩
  ·cases h;cases hp;exact ⟨_,_,_,rfl,rfl⟩
  ·cases h
 ·cases h
theorem Ch (d:Nat) (w:World) {T E:TypeId} (hT:P.underlying T=some (.slice E)) (A:Option Addr) (n c:Nat):(Op.equalIn (d+1) T (.slice A n c) (.slice none 0 0)).run P w = .ok A.isNone w:=by
 cases A<;>simp [Op.equalIn,run_underlying hT]
theorem yl (w:World) {T E:TypeId} (hT:P.underlying T=some (.slice E)) (A:Option Addr) (n c:Nat):(Op.equalIn 10000 T (.slice A n c) (.slice none 0 0)).run P w = .ok A.isNone w:=Ch 9999 w hT A n c
theorem Ge {S:Hp} {op:BinOp} {T T' E:TypeId} {x y:Operand} {b:Bool} (ho:o.op = .binOp op T x y T') (hT:P.underlying T=some (.slice E)) (mf:op = .eql∨op = .neq)
  (hb:AH (ρ x) (ρ y)=some b):eX P o ρ S S (.v (.bool (if op = .eql then b else !b))):=
 .value fun g w a _ hv=>by
  obtain ⟨e2,A,n,c,h1,h2⟩:=Gn hb (hv x (by simp [ho,Op.operands])) (hv y (by simp [ho,Op.operands]))
  have eQ:=yl (P:=P) w hT A n c
  rw [h2] at eQ
  refine ⟨.bool (if op = .eql then b else !b),?_,.v _⟩
  have jZ:(eqGuard op T x y (.slice A n c) (.slice none 0 0)).run P w = .ok () w:=by
   rcases mf with rfl | rfl<;>rfl
  rcases mf with rfl | rfl
  ·have hb:(binOp .eql T (.slice A n c) (.slice none 0 0)).run P w = .ok (.bool b) w:=by
    simp only [binOp];simp [Op.equal,Op.maxDepth,eQ]
   simp only [execOp,ho,h1,e2,Sem.run_bind,jZ,Result.andThen_ok,if_true,hb,Sem.run_pure]
  ·have hb:(binOp .neq T (.slice A n c) (.slice none 0 0)).run P w = .ok (.bool (!b)) w:=by
    simp only [binOp];simp [Op.equal,Op.maxDepth,eQ]
   simp only [execOp,ho,h1,e2,Sem.run_bind,jZ,Result.andThen_ok,hb,Sem.run_pure]
   rfl
def Ey (E:Env) (op:BinOp) (T:Nat) (px py:A) (h:H) (K:A→H→Fp→Option β):Option β:=match px,py with
 | .v (.int k m),.v (.int k' n)=>bif Jp op then shI op k m n (fun v=>K (.v v) h .no) else if k=k' then TK op k m n (fun v=>K (.v v) h .no) else none
 | .v (.bool p),.v (.bool q)=>bif isEq op then (match cz E.dN T with
  | some ⟨.bool,_,_,_,_,_,_⟩=>K (.v (.bool (AI op (rG p q)))) h .no
  | _=>none) else none
 | px,py=>bif isEq op then (match cz E.dN T with
  | some e=>match e.d with
   | .pointer _=>match CW px py with
    | some b=>K (.v (.bool (AI op b))) h .no
    | none=>none
   | .slice _=>match AH px py with
    | some b=>K (.v (.bool (AI op b))) h .no
    | none=>none
   | .struct _=>bif ij px && ij py && E.eqs.any (Nat.beq T) then (match px.cells,py.cells with
    | some cs,some ds=>match uR E 6 T cs ds with
     | some b=>K (.v (.bool (AI op b))) h .no
     | none=>none
    | _,_=>none) else none
   | _=>none
  | none=>none) else none
theorem uz (hE:bW P E) {op:BinOp} {T T':TypeId} {x y:Operand} (ho:o.op = .binOp op T x y T') (hr:Ey E op T (ρ x) (ρ y) h K=some r):Out P o ρ h K r:=by
 have hd:∀c,o.op≠.defer c:=by rw [ho];intro c e;cases e
 unfold Ey at hr
 split at hr
 ·rename_i k m k' n hx hy
  cases hs:Jp op with
  | true=>
   rw [hs] at hr
   simp only [cond_true] at hr
   obtain ⟨v,h1,h2⟩:=J5 hr
   exact .pure h1 (fun S2=>As ho hx hy h2) hd
  | false=>
   rw [hs] at hr
   simp only [cond_false] at hr
   split at hr
   ·rename_i hk;subst hk
    obtain ⟨v,h1,h2⟩:=Hw hr
    exact .pure h1 (fun S2=>Gg ho hx hy h2) hd
   ·cases hr
 ·rename_i p q hx hy
  obtain ⟨hq,hr⟩:=ah hr
  split at hr
  ·rename_i ht
   refine .pure hr (fun S2=>?_) hd
   have:=Gf (P:=P) (S:=S2) ho (hE.dN _ _ ht).u hx hy (lx hq)
   rw [oi _ hq]
   rcases lx hq with rfl | rfl<;>exact this
  ·cases hr
 ·obtain ⟨hq,hr⟩:=ah hr
  split at hr
  ·rename_i e ht
   split at hr
   ·rename_i el BE
    split at hr
    ·rename_i b hb
     refine .pure hr (fun S2=>?_) hd
     rw [oi _ hq]
     exact Av ho (by rw [(hE.dN _ _ ht).u,BE]) hb (lx hq)
    ·cases hr
   ·rename_i el BE
    split at hr
    ·rename_i b hb
     refine .pure hr (fun S2=>?_) hd
     rw [oi _ hq]
     exact Ge ho (by rw [(hE.dN _ _ ht).u,BE]) (lx hq) hb
    ·cases hr
   ·rename_i fs BE
    obtain ⟨hc,hr⟩:=ah hr
    simp only [zC] at hc
    split at hr
    ·rename_i cs ds h1 h2
     split at hr
     ·rename_i b hb
      refine .pure hr (fun S2=>?_) hd
      rw [oi _ hq]
      exact Aw hE ho ht (by rw [BE];rfl) (hE.eqs _ hc.2) hc.1.1 hc.1.2 h1 h2 hb (by omega) (lx hq)
     ·cases hr
    ·cases hr
   ·cases hr
  ·cases hr
def UX (op:UnOp) (px:A) (h:H) (K:A→H→Fp→Option β):Option β:=match op,px with
 | .not,.v (.bool b)=>K (.v (.bool (ax b))) h .no
 | _,_=>none
theorem J0 {op:UnOp} {T:TypeId} {x:Operand} (ho:o.op = .unOp op T x) (hr:UX op (ρ x) h K=some r):Out P o ρ h K r:=by
 unfold UX at hr
 split at hr
 ·rename_i b hx
  exact .pure hr (fun S2=>F_ ho hx) (by rw [ho];intro c e;cases e)
 ·cases hr
def acK (E:Env) (s d:Nat) (px:A) (h:H) (K:A→H→Fp→Option β):Option β:=match cz E.dN s,cz E.dN d,px with
 | some _,some ⟨.int k',_,_,_,_,_,_⟩,.v (.int k n)=>if k'=k then K (.v (.int k n)) h .no else K (.v (.int k' (cy k' n))) h .no
 | _,_,_=>none
def Y3 (E:Env) (s d:Nat) (px:A) (h:H) (K:A→H→Fp→Option β):Option β:=match cz E.dN s,cz E.dN d,px with
 | some _,some ⟨.int k',_,_,_,_,_,_⟩,.v (.int _ n)=>K (.v (.int k' (cy k' n))) h .no
 | _,_,_=>none
theorem Lx (hE:bW P E) {s d:TypeId} {x:Operand} (ho:o.op = .convert s d x) (hr:Y3 E s d (ρ x) h K=some r):Out P o ρ h K r:=by
 unfold Y3 at hr
 split at hr
 ·rename_i es _ _ _ _ _ _ _ _ _ hs mZ hx
  exact .pure hr (fun S2=>CM ho (by rw [(hE.dN _ _ hs).u];rfl) (hE.dN _ _ mZ).u hx) (by rw [ho];intro c e;cases e)
 ·cases hr
def Qy (px:A) (h:H) (K:A→H→Fp→Option β):Option β:=bif Di px then K px h .no else none
theorem Gq {x:Operand} (ho:o.op = .nilCheck x) (hr:Qy (ρ x) h K=some r):Out P o ρ h K r:=by
 obtain ⟨h1,h2⟩:=ah hr
 exact .pure h2 (fun S2=>tJ ho h1) (by rw [ho];intro c e;cases e)
end
end
section
open Go.RowKit
section
variable {P:Program} {E:Env} {o:Oper} {ρ:Operand→A} {h:H} {β:Type} {K:A→H→Fp→Option β} {r:β}
def lD:Nat→Ty→Nat→Option (List Sp)
 | 1,_,0=>some []
 | _+2,.pair _ _,0=>some [.fst]
 | n+2,.pair a b,f+1=>match lD (n+1) b f with
  | some π=>some (.snd a.size::π)
  | none=>none
 | _,_,_=>none
theorem uk {s:Nat}:∀(n:Nat) (t:Ty) (f:Nat) (π:List Sp),lD n t f=some π→BK s π
 | 0,_,_,_,h=>by simp [lD] at h
 | 1,_,0,_,h=>by simp [lD] at h;subst h;trivial
 | 1,_,f+1,_,h=>by simp [lD] at h
 | n+2,.pair a b,0,_,h=>by simp [lD] at h;subst h;trivial
 | n+2,.pair a b,f+1,_,h=>by
  simp only [lD] at h
  split at h
  ·rename_i π' h'
   cases h
   exact uk (s:=s) (n+1) b f π' h'
  ·cases h
 | n+2,.int _,f,_,h=>by cases f<;>simp [lD] at h
 | n+2,.bool,f,_,h=>by cases f<;>simp [lD] at h
 | n+2,.unit,f,_,h=>by cases f<;>simp [lD] at h
 | n+2,.arr _ _,f,_,h=>by cases f<;>simp [lD] at h
 | n+2,.aJ _,f,_,h=>by cases f<;>simp [lD] at h
 | n+2,.ptr _,f,_,h=>by cases f<;>simp [lD] at h
 | n+2,.dT _,f,_,h=>by cases f<;>simp [lD] at h
 | n+2,.jQ _ _,f,_,h=>by cases f<;>simp [lD] at h
 | n+2,.oS _ _,f,_,h=>by cases f<;>simp [lD] at h
 | n+2,.mp _,f,_,h=>by cases f<;>simp [lD] at h
def Ld (E:Env) (T f:Nat) (px:A) (h:H) (K:A→H→Fp→Option β):Option β:=match cz E.dN T with
 | some ⟨.struct fs,_,_,_,_,t,_⟩=>match fs[f]? with
  | some fd=>match cz E.dN fd.type with
   | some e=>bif Nat.blt 0 e.size then (match px with
    | .ptr o off=>K (.ptr o (off+fd.offset)) h .no
    | .tp X π=>match t with
     | some t=>match lD fs.size t f with
      | some σ=>bif Nat.beq (dy σ) fd.offset then K (.tp X (π++σ)) h .no else none
      | none=>none
     | none=>none
    | .dp t x=>match lD fs.size t f with
     | some σ=>bif Nat.beq (dy σ) fd.offset then (match nF σ t x with
      | some s=>K (.dp s.t s.x) h .no
      | none=>none) else none
     | none=>none
    | _=>none) else none
   | none=>none
  | none=>none
 | _=>none
theorem G6 (hE:bW P E) {T f:Nat} {x:Operand} (ho:o.op = .fieldAddr T x f) (hr:Ld E T f (ρ x) h K=some r):Out P o ρ h K r:=by
 have hd:∀c,o.op≠.defer c:=by rw [ho];intro c e;cases e
 unfold Ld at hr
 split at hr
 ·rename_i fs _ _ _ _ t _ ht
  split at hr
  ·rename_i fd hf
   split at hr
   ·rename_i e he
    obtain ⟨h0,hr⟩:=ah hr
    have h0:=a_ h0
    have nv:∀{v:A},(∀g u,V g (ρ x) u→∃b off,u = .pointer (some ⟨b,off,none⟩)∧V g v (.pointer (some ⟨b,off+fd.offset,none⟩)))→∀S2,eX P o ρ S2 S2 v:=fun hv S2=>
     Au ho (hE.dN _ _ ht).u hf (hE.dN _ _ he).ti.size (by omega) hv
    split at hr
    ·rename_i q off hx
     refine .pure hr (nv fun g u hu=>?_) hd
     rw [hx] at hu
     cases hu with
     | ptr _ _ b s hb=>exact ⟨b,off,rfl,.ptr _ _ b s hb⟩
    ·rename_i X π hx
     split at hr
     ·rename_i t'
      split at hr
      ·rename_i σ hσ
       obtain ⟨hc,hr⟩:=ah hr
       refine .pure hr (nv fun g u hu=>?_) hd
       rw [hx] at hu
       cases hu with
       | tp _ _ b s hb hk=>
        refine ⟨b,dy π,rfl,?_⟩
        rw [←beq_eq hc,←jW]
        exact .tp X _ b s hb ((lF π σ).2 ⟨hk,uk _ _ _ _ hσ⟩)
      ·cases hr
     ·cases hr
    ·rename_i t' y hx
     split at hr
     ·rename_i σ hσ
      obtain ⟨hc,hr⟩:=ah hr
      split at hr
      ·rename_i sg Wz
       refine .pure hr (nv fun g u hu=>?_) hd
       rw [hx] at hu
       cases hu with
       | dp _ _ b off f hm=>
        obtain ⟨a,c,q1,q2⟩:=mi σ t' y 0 sg Wz (uk _ _ _ _ hσ)
        refine ⟨b,off,rfl,.dp sg.t sg.x b _ (fun j=>f (dy σ+j)) (fun j d hj=>?_)⟩
        have:=hm (dy σ+j) d (by
         rw [q1,zJ (by omega),show dy σ+j-a.length=j by omega,zK (zB.1 hj).1];exact hj)
        rw [←beq_eq hc,Nat.add_assoc]
        exact this
      ·cases hr
     ·cases hr
    ·cases hr
   ·cases hr
  ·cases hr
 ·cases hr
def TZ:Nat→Nat→Int→(Nat→Option β)→Option β
 | 0,_,_,_=>none
 | n+1,i,m,k=>br (af m (zN i)) (k i) (TZ n (i+1) m k)
theorem wY {m:Int} {k:Nat→Option β}:∀(n i:Nat),TZ n i m k=some r→∃j,k j=some r∧m=((j:Nat):Int)∧i≤j∧j<i+n
 | 0,i,h=>by cases h
 | n+1,i,h=>by
  rcases pB h with ⟨e,h1⟩ | ⟨e,h1⟩
  ·exact ⟨i,h1,of_decide_eq_true e,Nat.le_refl _,by omega⟩
  ·obtain ⟨j,k1,k2,k3,k4⟩:=wY n (i+1) h1
   exact ⟨j,k1,k2,by omega,by omega⟩
def We:Operand→Option Nat
 | .const (.int _ (.ofNat n))=>some n
 | _=>none
theorem nf {n:Int} (h:bn n):((nN n:Nat):Int)=n:=Int.toNat_of_nonneg h
def Wk (E:Env) (T:Nat) (px:A) (y:Operand) (py:A) (h:H) (K:A→H→Fp→Option β):Option β:=match py with
 | .v (.int _ n)=>match cz E.dN T with
  | some ⟨.array len el,_,_,_,_,_,_⟩=>match cz E.dN el with
   | some e=>match px with
    | .ptr q off=>match We y with
     | some i=>gd (neq (nN n) i) (bif Nat.blt i len then gd (bn n) (K (.ptr q (off+i*e.size)) h .no) else none)
     | none=>TZ len 0 n (fun i=>K (.ptr q (off+i*e.size)) h .no)
    | .tp X π=>gd (bn n) (gd (bp (nN n) len) (K (.tp X (π++[.ai (nN n) len e.size])) h .no))
    | .dp t x=>gd (bn n) (gd (bp (nN n) len) (bif Nat.blt 0 e.size then (match nF [.ai (nN n) len e.size] t x with
     | some s=>K (.dp s.t s.x) h .no
     | none=>none) else none))
    | _=>none
   | none=>none
  | some ⟨.slice el,_,_,_,_,_,_⟩=>match cz E.dN el with
   | some e=>bif Nat.blt 0 e.size then (match px with
    | .tl t _ l=>bif Nat.beq t.size e.size then gd (bn n) (gd (bp (nN n) (len l)) (K (.dp t (nth t.cM l (nN n))) h .no)) else none
    | .tw X z=>bif Nat.beq z e.size then jb h X (fun t l=>bif Nat.beq z t.size then gd (bn n) (gd (bp (nN n) (len l)) (K (.tp X [.ix (nN n) z]) h (.rd [iE X]))) else none) else none
    | .ts X z off m=>bif Nat.beq z e.size then gd (bn n) (gd (bp (nN n) m) (K (.tp X [.ix (aK off (nN n)) z]) h .no)) else none
    | .tf X z off m=>bif Nat.beq z e.size then gd (bn n) (gd (bp (nN n) m) (K (.tp X [.ix (aK off (nN n)) z]) h .no)) else none
    | .aa X π m z=>bif Nat.beq z e.size then gd (bn n) (gd (bp (nN n) m) (K (.tp X (π++[.ai (nN n) m z])) h .no)) else none
    | .sl q off z m=>bif Nat.beq z e.size then TZ m 0 n (fun i=>K (.ptr q (off+i*z)) h .no) else none
    | _=>none) else none
   | none=>none
  | _=>none
 | _=>none
theorem G7 {t:Ty} {l:List t.T} {i:Nat} (hi:i<l.length) {j:Nat} {c:D} (hj:(cY t (nth t.cM l i))[j]?=some c):(l.map (cY t)).flatten[i*t.size+j]?=some c:=by
 have e:l=l.take i++nth t.cM l i::l.drop (i+1):=by
  rw [show nth t.cM l i=l[i] by simp [nth,zA,zD hi],List.getElem_cons_drop,zP]
 have hl:((l.take i).flatMap (cY t)).length=i*t.size:=by
  have:∀m:List t.T,(m.flatMap (cY t)).length=m.length*t.size:=fun m=>by
   induction m with
   | nil=>simp
   | cons a m ih=>rw [List.flatMap_cons,zY,ih,dY,zR,Nat.succ_mul,Nat.add_comm]
  rw [this,List.length_take,Nat.min_eq_left (Nat.le_of_lt hi)]
 rw [kX]
 conv=>lhs;rw [e]
 rw [List.flatMap_append,List.flatMap_cons,zJ (by omega),hl,show i*t.size+j-i*t.size=j by omega,zK (zB.1 hj).1]
 exact hj
theorem KM (hE:bW P E) {T:Nat} {x y:Operand} (ho:o.op = .indexAddr T x y) (hr:Wk E T (ρ x) y (ρ y) h K=some r):Out P o ρ h K r:=by
 have hd:∀c,o.op≠.defer c:=by rw [ho];intro c e;cases e
 unfold Wk at hr
 split at hr
 ·rename_i k n hy
  split at hr
  ·rename_i len el _ _ _ _ _ _ ht
   split at hr
   ·rename_i e he
    have nv:∀{v:A},0≤n∧n<len→(∀g u,V g (ρ x) u→∃b off,u = .pointer (some ⟨b,off,none⟩)∧V g v (.pointer (some ⟨b,off+n.toNat*e.size,none⟩)))→∀S2,eX P o ρ S2 S2 v:=fun hn hv S2=>
     rX ho (hE.dN _ _ ht).u (hE.dN _ _ he).ti.size hy hn hv
    split at hr
    ·rename_i q off hx
     have ptr:∀i:Nat,n.toNat=i→∀g u,V g (ρ x) u→∃b Qv,u = .pointer (some ⟨b,Qv,none⟩)∧V g (.ptr q (off+i*e.size)) (.pointer (some ⟨b,Qv+n.toNat*e.size,none⟩)):=fun i hi g u hu=>by
      rw [hx] at hu
      cases hu with
      | ptr _ _ b s hb=>exact ⟨b,off,rfl,by rw [hi];exact .ptr _ _ b s hb⟩
     split at hr
     ·rename_i i _
      obtain ⟨h1,hr⟩:=bA hr
      obtain ⟨h2,hr⟩:=ah hr
      obtain ⟨h3,hr⟩:=bA hr
      have h4:=nf h3
      have h1:nN n=i:=h1
      have h5:=a_ h2
      exact .pure hr (nv ⟨h3,by omega⟩ (ptr i h1)) hd
     ·obtain ⟨i,h1,h2,h3,h4⟩:=wY _ _ hr
      exact .pure h1 (nv ⟨by omega,by omega⟩ (ptr i (by omega))) hd
    ·rename_i X π hx
     obtain ⟨h3,hr⟩:=bA hr
     obtain ⟨h4,hr⟩:=bA hr
     have h5:=nf h3
     have h4:nN n<len:=h4
     refine .pure hr (nv ⟨h3,by omega⟩ (fun g u hu=>?_)) hd
     rw [hx] at hu
     cases hu with
     | tp _ _ b s hb hk=>
      refine ⟨b,dy π,rfl,?_⟩
      have:=V.tp (g:=g) X (π++[.ai (nN n) len e.size]) b s hb ((lF π [.ai (nN n) len e.size]).2 ⟨hk,show nN n<len∧True from ⟨h4,trivial⟩⟩)
      rw [jW] at this
      exact this
    ·rename_i t z hx
     obtain ⟨h3,hr⟩:=bA hr
     obtain ⟨h4,hr⟩:=bA hr
     obtain ⟨_,hr⟩:=ah hr
     have h5:=nf h3
     have h4:nN n<len:=h4
     split at hr
     ·rename_i sg Wz
      refine .pure hr (nv ⟨h3,by omega⟩ (fun g u hu=>?_)) hd
      rw [hx] at hu
      cases hu with
      | dp _ _ b off f hm=>
       obtain ⟨a,c,q1,q2⟩:=mi _ t z 0 sg Wz ⟨h4,trivial⟩
       have q2:a.length=nN n*e.size:=q2
       refine ⟨b,off,rfl,.dp sg.t sg.x b _ (fun j=>f (nN n*e.size+j)) (fun j d hj=>?_)⟩
       have:=hm (nN n*e.size+j) d (by
        rw [q1,zJ (by omega),show nN n*e.size+j-a.length=j by omega,zK (zB.1 hj).1];exact hj)
       rw [Nat.add_assoc]
       exact this
     ·cases hr
    ·cases hr
   ·cases hr
  ·rename_i el _ _ _ _ _ _ ht
   split at hr
   ·rename_i e he
    obtain ⟨h0,hr⟩:=ah hr
    have h0:=a_ h0
    have nv:∀{v:A} {S2:Hp},(∀g w u,Inv g S2 w→V g (ρ x) u→∃b off m cap,u = .slice (some ⟨b,off,none⟩) m cap∧(0≤n∧n<m)∧V g v (.pointer (some ⟨b,off+n.toNat*e.size,none⟩)))→eX P o ρ S2 S2 v:=fun hv=>
     tL ho (hE.dN _ _ ht).u (hE.dN _ _ he).ti.size hy hv
    split at hr
    ·rename_i t f l hx
     obtain ⟨h1,hr⟩:=ah hr
     obtain ⟨h3,hr⟩:=bA hr
     obtain ⟨h4,hr⟩:=bA hr
     have h5:=nf h3
     have h4:nN n<l.length:=h4
     refine .pure hr (fun S2=>nv (fun g w u hI hu=>?_)) hd
     rw [hx] at hu
     cases hu with
     | tl _ _ _ _ hv=>
      rw [←beq_eq h1] at *
      generalize qj:List.map (cY t) l=es at hv
      have pq:es.length=l.length:=by rw [←qj,zH]
      cases hv with
      | tn=>simp at pq;omega
      | sl _ _ _ a cap vs hz hc hf hn nQ hl hm E6=>
       obtain ⟨p,rfl⟩:∃p,a=some p:=by
        cases a with
        | none=>have:=hn rfl;omega
        | some p=>exact ⟨p,rfl⟩
       refine ⟨p.1,p.2,es.length,cap,rfl,⟨h3,by omega⟩,.dp t _ p.1 _ (fun j=>vs.getD (nN n*t.size+j) undef) (fun j c hj=>?_)⟩
       have E_:=G7 (t:=t) (l:=l) h4 hj
       rw [qj] at E_
       have dD:=(zB.1 E_).1
       have BB:vs[nN n*t.size+j]?=some (vs.getD (nN n*t.size+j) undef):=by
        rw [zA,zD (by rw [←hl];exact dD)];rfl
       refine ⟨?_,E6 _ c _ E_ BB⟩
       have:=hm p _ _ rfl BB
       rw [Nat.add_assoc];exact this
    ·rename_i X z hx
     obtain ⟨h1,hr⟩:=ah hr
     obtain rfl:=beq_eq h1
     obtain ⟨t,l,hr,hX,eY⟩:=eO hr
     obtain ⟨h2,hr⟩:=ah hr
     obtain ⟨h3,hr⟩:=bA hr
     obtain ⟨h4,hr⟩:=bA hr
     have h5:=nf h3
     have h4:nN n<l.length:=h4
     have h2:=beq_eq h2
     refine .read _ hr (fun S2 hA=>nv (fun g w u hI hu=>?_)) hd
     have dX:=(hA _ (bI hX (.head _))).1.trans eY
     rw [hx] at hu
     cases hu with
     | sr _ _ ad bL=>
      rcases hI.cells _ _ dX with ⟨_,k2⟩ | ⟨b,tt,k1,_⟩
      ·have:=bc t l
       rw [k2] at this
       have:0<l.length*t.size:=Nat.mul_pos (by omega) (by omega)
       simp at *;omega
      ·rw [k1] at bL;cases bL
     | tw _ _ m b cap tt bL hn nQ hp d mZ=>
      rcases hI.cells _ _ dX with ⟨k1,_⟩ | ⟨b',Fv,k1,_⟩
      ·rw [k1] at bL;cases bL
      have K7:=bL
      rw [k1] at bL
      simp only [zI,zU] at bL
      obtain ⟨rfl,hlen,_⟩:=bL
      rw [bc,h2] at hlen
      have hm:l.length=m:=Nat.eq_of_mul_eq_mul_right (by omega) hlen
      refine ⟨b',d,m,cap,rfl,⟨h3,by omega⟩,?_⟩
      obtain rfl:=mZ (by omega)
      have:=V.tp (g:=g) X [.ix (nN n) e.size] b' _ K7 ⟨zW _ (by omega),trivial⟩
      rw [show dy [.ix (nN n) e.size]=nN n*e.size from rfl] at this
      rw [Nat.zero_add];exact this
    ·rename_i X z off m hx
     obtain ⟨h1,hr⟩:=ah hr
     obtain rfl:=beq_eq h1
     obtain ⟨h3,hr⟩:=bA hr
     obtain ⟨h4,hr⟩:=bA hr
     have h5:=nf h3
     have h4:nN n<m:=h4
     refine .pure hr (fun S2=>nv (fun g w u hI hu=>?_)) hd
     rw [hx] at hu
     cases hu with
     | su _ _ _ _ _ _ hn=>omega
     | ts _ _ _ _ b cap s bL hn nQ hs hp d mZ=>
      refine ⟨b,d,m,cap,rfl,⟨h3,by omega⟩,?_⟩
      obtain rfl:=mZ (by omega)
      have:=V.tp (g:=g) X [.ix (aK off (nN n)) e.size] b _ bL ⟨Nat.le_trans (zW _ (show aK off (nN n)+1≤off+m by unfold aK;omega)) hs,trivial⟩
      rw [show dy [.ix (aK off (nN n)) e.size]=(off+nN n)*e.size from rfl,Nat.add_mul] at this
      exact this
    ·rename_i X z off m hx
     obtain ⟨h1,hr⟩:=ah hr
     obtain rfl:=beq_eq h1
     obtain ⟨h3,hr⟩:=bA hr
     obtain ⟨h4,hr⟩:=bA hr
     have h5:=nf h3
     have h4:nN n<m:=h4
     refine .pure hr (fun S2=>nv (fun g w u hI hu=>?_)) hd
     rw [hx] at hu
     cases hu with
     | B0 _ _ _ _ _ _ hn=>omega
     | tf _ _ _ _ b s bL nQ hs d mZ=>
      refine ⟨b,d,m,m,rfl,⟨h3,by omega⟩,?_⟩
      obtain rfl:=mZ (by omega)
      have:=V.tp (g:=g) X [.ix (aK off (nN n)) e.size] b _ bL ⟨Nat.le_trans (zW _ (show aK off (nN n)+1≤off+m by unfold aK;omega)) hs,trivial⟩
      rw [show dy [.ix (aK off (nN n)) e.size]=(off+nN n)*e.size from rfl,Nat.add_mul] at this
      exact this
    ·rename_i X π m z hx
     obtain ⟨h1,hr⟩:=ah hr
     obtain rfl:=beq_eq h1
     obtain ⟨h3,hr⟩:=bA hr
     obtain ⟨h4,hr⟩:=bA hr
     have h5:=nf h3
     have h4:nN n<m:=h4
     refine .pure hr (fun S2=>nv (fun g w u hI hu=>?_)) hd
     rw [hx] at hu
     cases hu with
     | aa _ _ _ _ b cap s bL hk hn nQ=>
      refine ⟨b,dy π,m,cap,rfl,⟨h3,by omega⟩,?_⟩
      have:=V.tp (g:=g) X (π++[.ai (nN n) m e.size]) b s bL ((lF π [.ai (nN n) m e.size]).2 ⟨hk,show nN n<m∧True from ⟨h4,trivial⟩⟩)
      rw [jW] at this
      exact this
    ·rename_i q off z m hx
     obtain ⟨h1,hr⟩:=ah hr
     obtain rfl:=beq_eq h1
     obtain ⟨i,k1,k2,k3,k4⟩:=wY _ _ hr
     refine .pure k1 (fun S2=>nv (fun g w u hI hu=>?_)) hd
     rw [hx] at hu
     cases hu with
     | sl _ _ _ _ b cap s bL hn nQ hs=>
      refine ⟨b,off,m,cap,rfl,⟨by omega,by omega⟩,?_⟩
      rw [show n.toNat=i by omega]
      exact .ptr _ _ b s bL
    ·cases hr
   ·cases hr
  ·cases hr
 ·cases hr
end
end
section
open Go.RowKit
section
variable {P:Program} {E:Env} {o:Oper} {ρ:Operand→A} {h:H} {β:Type} {K:A→H→Fp→Option β} {r:β}
def KJ (E:Env) (T:Nat) (px:A) (h:H) (K:A→H→Fp→Option β):Option β:=match cz E.dN T with
 | some e=>match px with
  | .ptr q off=>bif Nat.blt q 16777216 then (match h.t.get q with
   | some (.cells cs)=>bif jD e.d then (bif Nat.ble (off+e.size) cs.length then K (.agg ((cs.drop off).take e.size)) h (.rd [dq q]) else none) else (match cs[off]? with
    | some c=>B3 c (fun v=>K v h (.rd [dq q]))
    | none=>none)
   | _=>none) else none
  | .tp X π=>qP h X π (fun s=>bif Nat.beq s.t.size e.size then (bif jD e.d then K (.agg (aA s.t s.x)) h (.rd [iE X]) else (match aA s.t s.x with
   | [c]=>B3 c (fun v=>K v h (.rd [iE X]))
   | _=>none)) else none)
  | .dp t x=>bif t.data && Nat.beq t.size e.size then (bif jD e.d then K (.agg (aA t x)) h .no else (match aA t x with
   | [c]=>B3 c (fun v=>K v h .no)
   | _=>none)) else none
  | _=>none
 | none=>none
theorem C5 (hE:bW P E) {T:Nat} {px:A} (hr:KJ E T px h K=some r):∃v l,K v h (.rd l)=some r∧∀S2,Agree (.rd l) (hp h) S2→∀(o:Oper) (ρ:Operand→A) (x:Operand),o.op = .load T x→ρ x=px→EP P o ρ S2 v:=by
 have sp:∀{c:A} {l:List Nat},B3 c (fun v=>K v h (.rd l))=some r→(∀S2,Agree (.rd l) (hp h) S2→∀(o:Oper) (ρ:Operand→A) (x:Operand),o.op = .load T x→ρ x=px→EP P o ρ S2 c) →
   ∃v l,K v h (.rd l)=some r∧∀S2,Agree (.rd l) (hp h) S2→∀(o:Oper) (ρ:Operand→A) (x:Operand),o.op = .load T x→ρ x=px→EP P o ρ S2 v:=fun h1 h2=>by
  obtain ⟨v,k1,k2⟩:=wZ h1
  exact ⟨v,_,k1,fun S2 hA o ρ x ho hx g w a hI hv=>let ⟨u,q1,q2⟩:=h2 S2 hA o ρ x ho hx g w a hI hv;⟨u,q1,k2 g u q2⟩⟩
 unfold KJ at hr
 split at hr
 ·rename_i e ht
  have hk:=hE.dN _ _ ht
  split at hr
  ·rename_i q off
   obtain ⟨hq,hr⟩:=ah hr
   have hq:=a_ hq
   split at hr
   ·rename_i cs hg
    have eY:(hp h).ob q=some (.cells cs):=by rw [jY hq];unfold fG;rw [hg];rfl
    cases ha:jD e.d with
    | true=>
     rw [ha] at hr;simp only [cond_true] at hr
     obtain ⟨h1,hr⟩:=ah hr
     exact ⟨_,_,hr,fun S2 hA o ρ x ho hx=>oh ho hk.u ha hk.ti.size (by rw [hx];rfl) ((hA q (aB hq (.head _))).1.trans eY) (Nat.le_of_ble_eq_true h1)⟩
    | false=>
     rw [ha] at hr;simp only [cond_false] at hr
     split at hr
     ·rename_i c hc
      exact sp hr (fun S2 hA o ρ x ho hx=>vq ho hk.u ha (by rw [hx];rfl) ((hA q (aB hq (.head _))).1.trans eY) hc)
     ·cases hr
   ·cases hr
  ·rename_i X π
   obtain ⟨sg,h1,hX,h2⟩:=sE hr
   obtain ⟨h3,h1⟩:=ah h1
   have h3:=beq_eq h3
   have bm:∀{S2:Hp} {v:A} {o:Oper} {ρ:Operand→A} {x:Operand},o.op = .load T x→ρ x = .tp X π→Agree (.rd [iE X]) (hp h) S2→(∀a c,S2.ob X.id=some (.cells (a++(aA sg.t sg.x++c)))→a.length=dy π→EP P o ρ S2 v)→EP P o ρ S2 v:=fun {S2 v o ρ x} ho hx hA k=>.bm fun g w a hI hv=>by
    have E7:=hv x (by simp [ho,Op.operands])
    rw [hx] at E7
    have ha:=hA _ (bI hX (.head _))
    obtain ⟨a,c,q1,q2⟩:=h2 g _ w _ hI ha.1 ha.2 E7
    exact k a c q1 q2
   have vR:∀{ρ:Operand→A} {x:Operand},ρ x = .tp X π→Pl (ρ x)=some (X.id,dy π):=fun hx=>by rw [hx];rfl
   cases ha:jD e.d with
   | true=>
    rw [ha] at h1;simp only [cond_true] at h1
    refine ⟨_,_,h1,fun S2 hA o ρ x ho hx=>bm ho hx hA fun a c q1 q2=>?_⟩
    have:=oh (P:=P) ho hk.u ha hk.ti.size (vR hx) q1 (by simp only [zY,bK];omega)
    rwa [←q2,List.drop_left,←h3,←bK sg.t sg.x,List.take_left] at this
   | false=>
    rw [ha] at h1;simp only [cond_false] at h1
    split at h1
    ·rename_i c0 Ff
     refine sp h1 (fun S2 hA o ρ x ho hx=>bm ho hx hA fun a c q1 q2=>?_)
     refine vq ho hk.u ha (vR hx) q1 ?_
     rw [←q2,zJ (Nat.le_refl _),Nat.sub_self,Ff];rfl
    ·cases h1
  ·rename_i t y
   obtain ⟨h1,hr⟩:=ah hr
   simp only [zC] at h1
   have h3:=beq_eq h1.2
   cases ha:jD e.d with
   | true=>
    rw [ha] at hr;simp only [cond_true] at hr
    exact ⟨_,[],hr,fun S2 _ o ρ x ho hx=>pJ ho hk.u (by rw [h3];exact hk.ti.size) hx h1.1 (by rw [ha,if_pos rfl])⟩
   | false=>
    rw [ha] at hr;simp only [cond_false] at hr
    split at hr
    ·rename_i c0 Ff
     exact sp (l:=[]) hr (fun S2 _ o ρ x ho hx=>pJ ho hk.u (by rw [h3];exact hk.ti.size) hx h1.1 (by rw [ha,if_neg (by simp)];exact Ff))
    ·cases hr
  ·cases hr
 ·cases hr
theorem KI (hE:bW P E) {T:Nat} {x:Operand} (ho:o.op = .load T x) (hr:KJ E T (ρ x) h K=some r):Out P o ρ h K r:=by
 have hd:∀c,o.op≠.defer c:=by rw [ho];intro c e;cases e
 obtain ⟨v,l,k1,k2⟩:=C5 hE hr
 exact .read _ k1 (fun S2 hA=>.value (k2 S2 hA o ρ x ho rfl)) hd
def sn (P:Program) (o:Oper) (S S':Hp) (pv:A) (g:G) (w:World) (a:Act):Prop:=
 ∀(next:Act→World→Prop) (Q:Exit→Act→World→Prop),(∀v g' w',V g' pv v→Inv g' S' w'→Ext S g w S' g' w'→next (a.put o.dst v) w')→o.wp P a w next Q
theorem sn.pre {S S1 S':Hp} {pv:A} {g g1:G} {w:World} {a:Act} (k:sn P o S1 S' pv g1 w a) (e:Ext S g w S1 g1 w):sn P o S S' pv g w a:=fun next Q K=>k next Q (fun v g' w' h1 h2 h3=>K v g' w' h1 h2 (e.trans h3))
theorem B1 {S:Hp} {T:TypeId} {x y:Operand} {p off n:Nat} {cs ps:List A} {g:G} {w:World} {a:Act} (ho:o.op = .store T x y) (hs:eL P T n) (hI:Inv g S w) (hx:∃b s,g.bm p=some (some b,s)∧a.eval x = .pointer (some ⟨b,off,none⟩)) (hy:Vs g ps (a.eval y).cells.toList) (hl:ps.length=n)
  (hp:S.ob p=some (.cells cs)) (hn:off+n≤cs.length):sn P o S (S.set p (.cells (put cs off ps))) .cI g w a:=by
 intro next Q K
 obtain ⟨b,s,h,hu⟩:=hx
 obtain ⟨cur,ty,k2,oU,h3,h4⟩:=hI.store (off:=off) hp h hy (by omega)
 unfold Oper.wp
 have oV:(a.eval y).cells.size=n:=by have:=hy.1;simp at this;omega
 have pT:=run_storeCells_at P b off ty (a.eval y).cells.toList 0 cur w k2 (by simpa using oU) hy.one
 simp only [execOp,ho,hu,Instr.storeAt,Instr.sureAddr,pure_bind,storeVar,Sem.run_bind,hs.run w,Result.andThen_ok,oV,ne_eq,not_true_eq_false,if_false]
 simp only [Nat.add_zero] at pT
 simp only [pT,Result.andThen_ok,Sem.run_pure]
 exact K _ g _ (.cI _) h3 h4
theorem F6 {T:Fp} {us:List Up} {S' S2:Hp} (hT:∀u∈us,aG T u.id=true):iS T S' (app us S2)=iS T S' S2:=by
 refine Hp.ext' (fun i=>?_) (fun i=>?_)
 ·show (if aG T i=true then _ else _)=(if aG T i=true then _ else _)
  split
  ·rfl
  ·rename_i hi;exact (dB us S2 i (fun u hu e=>hi (e▸hT u hu))).1
 ·show (if aG T i=true then _ else _)↔(if aG T i=true then _ else _)
  split
  ·exact Iff.rfl
  ·rename_i hi;exact (dB us S2 i (fun u hu e=>hi (e▸hT u hu))).2
def VU (E:Env) (T:Nat) (px py:A) (h:H) (K:A→H→Fp→Option β):Option β:=match cz E.dN T,py.cells with
 | some e,some ps=>match px with
  | .ptr q off=>bif Nat.blt q 16777216 then (match h.t.get q with
   | some (.cells cs)=>bif Nat.beq ps.length e.size && Nat.ble (off+e.size) cs.length && !(vK h (dq q)) then ff h.t q (some (.cells (put cs off ps))) (fun t1=>K .cI { h with t:=t1 } (.wr [dq q])) else none
   | _=>none) else none
  | .tp X π=>match plT h X π with
   | some u=>bif Nat.beq u.size e.size then (Lf u ps h (fun tG h1 T1=>match oT u tG with
     | some y=>pP h1 X π u y (fun h2=>K .cI h2 (.wr (iE X::T1)))
     | none=>none)) else none
   | none=>none
  | _=>none
 | _,_=>none
theorem o7 {T U:List Nat} {w:Bool} {s:List Nat} {i:Nat} (hU:∀j∈U,j∈T) (k:aG ⟨false,T,w,s⟩ i=false):aG ⟨false,U,w,s⟩ i=false:=by
 cases hx:aG ⟨false,U,w,s⟩ i with
 | false=>rfl
 | true=>rw [eZ hU hx] at k;cases k
theorem J3 (hE:bW P E) {T:Nat} {x y:Operand} (ho:o.op = .store T x y) (hr:VU E T (ρ x) (ρ y) h K=some r):Out P o ρ h K r:=by
 have hd:∀c,o.op≠.defer c:=by rw [ho];intro c e;cases e
 unfold VU at hr
 split at hr
 ·rename_i e ps ht sb
  have hk:=hE.dN _ _ ht
  split at hr
  ·rename_i q off hx
   obtain ⟨hq,hr⟩:=ah hr
   have hq:=a_ hq
   split at hr
   ·rename_i cs hg
    have eY:(hp h).ob q=some (.cells cs):=by rw [jY hq];unfold fG;rw [hg];rfl
    obtain ⟨h1,hr⟩:=ah hr
    simp only [zC] at h1
    obtain ⟨_,t1,k1,k2⟩:=bt hr
    exact ⟨_,_,_,k1,.of [.set q (.cells (put cs off ps))] (po (x:=.cells (put cs off ps)) hq k2) rfl (fun u hu=>by rcases zF.1 hu with rfl;exact aB (o:=q) hq (.head _))
     (fun S2 hA=>Aq ho hk.ti.size (by rw [hx];rfl) sb (beq_eq h1.1.1) ((hA q (aB hq (.head _))).1.trans eY) (Nat.le_of_ble_eq_true h1.1.2)) hd⟩
   ·cases hr
  ·rename_i X π hx
   split at hr
   ·rename_i u hu
    obtain ⟨KR,hr⟩:=ah hr
    obtain ⟨tG,h1,T1,hr,us,c1,c2,c3⟩:=G_ hr
    split at hr
    ·rename_i y' hy
     obtain ⟨h2,k1,hX,k2,k3⟩:=FC hr
     have BC:∀u∈us,aG (Fp.wr (iE X::T1)) u.id=true:=fun u hu=>eZ (fun i hi=>.tail _ hi) (c2 u hu)
     have out:∀i,aG (Fp.wr (iE X::T1)) i=false→(hp h2).ob i=(hp h).ob i∧((hp h2).fr i↔(hp h).fr i):=fun i hi=>by
      have e1:=k2 i (o7 (T:=iE X::T1) (fun j hj=>by rcases zF.1 hj with rfl;exact .head _) hi)
      have e2:=dB us (hp h) i (fun u hu e=>by have:=BC u hu;rw [←e] at this;rw [show aG (Fp.wr (iE X::T1)) i=false from hi] at this;cases this)
      rw [←c1] at e2
      exact ⟨e1.1.trans e2.1,e1.2.trans e2.2⟩
     refine ⟨_,_,_,k1,⟨out,fun i hi=>out i (sq hi),fun S2 hA=>?_⟩⟩
     ·refine eX.Je (fun g w a next Q hI hv K'=>?_) hd
      have uP:=hv x (by simp [ho,Op.operands])
      have Wr:=(hv y (by simp [ho,Op.operands])).cells sb
      obtain ⟨g1,q1,q2,q3⟩:=c3 g S2 w _ hI (hA.mono fun i hi=>.tail _ hi) Wr
      obtain ⟨z1,z2⟩:=i_ (g:=g1) u tG y' hy
      have GZ:Agree (Fp.wr (iE X::T1)) (hp h1) (app us S2):=by rw [c1];exact Agree.app us hA
      rw [hx] at uP
      have QP:=uP.mono q2.le
      obtain ⟨cs,w1,w2,w3⟩:=k3 (iE X::T1) (.head _) g1 _ w _ q1 GZ QP
      have vR:∃b s,g1.bm X.id=some (some b,s)∧a.eval x = .pointer (some ⟨b,dy π,none⟩):=QP.pl rfl
      have oV:=beq_eq KR
      have st:=B1 (P:=P) ho hk.ti.size q1 vR (z2 _ q3) (by rw [bK,oV]) w1 (by rw [←oV];exact w2)
      rw [←w3,F6 BC] at st
      exact (st.pre q2) next Q K'
    ·cases hr
   ·cases hr
  ·cases hr
 ·cases hr
def mY (x:gw) (h:H) (k:Nat→H→Option β):Option β:=ff h.t h.aQ (some x) (fun t1=>k h.aQ { h with t:=t1,aQ:=h.aQ+1 })
theorem fO {x:gw} {k:Nat→H→Option β} (hr:mY x h k=some r):∃h',k h.aQ h'=some r∧h.aQ<16777216∧(hp h).fr h.aQ∧hp h'=app [.new h.aQ x.low] (hp h):=by
 obtain ⟨hq,t1,k1,k2⟩:=bt hr
 have hq:h.aQ<16777216:=AM hq
 refine ⟨_,k1,hq,?_,Dv hq k2⟩
 have e:(if h.aQ<cJ then h.aQ≤h.aQ else fU h.rg h.aQ)=(h.aQ≤h.aQ):=if_pos hq
 show (if h.aQ<cJ then h.aQ≤h.aQ else fU h.rg h.aQ)
 rw [e];exact Nat.le_refl _
theorem ny {S:Hp} {T:TypeId} {i:TypeInfo} {z:Value} {q:Nat} {zs:List A} (ho:o.op = .alloc T) (hi:P.info? T=some i) (hz:i.zero=some z) (QN:Zs zs z) (hf:S.fr q) :
  eX P o ρ S (S.new q (.cells zs)) (.ptr q 0):=by
 intro g w a next Q hI hv K
 have hzs:=QN g
 obtain ⟨h1,h2⟩:=hI.lE hf (cs:=zs) (vs:=z.cells) T (by have:=hzs.1;simp at this ⊢;omega) hzs.all
 unfold Oper.wp
 simp only [execOp,ho,Instr.alloc,Sem.run_bind,zeroValue,typeInfo,run_program,Result.andThen_ok,hi,hz,Sem.run_pure,newVar,newRow,run_newObj]
 exact K _ _ _ (.ptr _ _ w.heap.size _ cn) h1 h2
theorem V.Cy {g:G} {q:Nat} {v:Value} (hv:V g (.ptr q 0) v):V g (.tp (.loc q) []) v:=by
 cases hv with
 | ptr _ _ b s hb=>exact .tp (.loc q) [] b s hb trivial
def LW (E:Env) (T:Nat) (h:H) (K:A→H→Fp→Option β):Option β:=match cz E.dN T with
 | some e=>bif e.lt then (match e.t with
  | some t=>mY (.one t t.cM) h (fun q h'=>K (.tp (.loc q) []) h' (.wr [dq q]))
  | none=>none) else mY (.cells (jM e.zero)) h (fun q h'=>K (.ptr q 0) h' (.wr [dq q]))
 | none=>none
theorem HC (hE:bW P E) {T:Nat} (ho:o.op = .alloc T) (hr:LW E T h K=some r):Out P o ρ h K r:=by
 have hd:∀c,o.op≠.defer c:=by rw [ho];intro c e;cases e
 unfold LW at hr
 split at hr
 ·rename_i e ht
  have hk:=hE.dN _ _ ht
  obtain ⟨i,t1,t2,t3,t4,t5,t6⟩:=hk.ti
  cases hl:e.lt with
  | true=>
   rw [hl] at hr;simp only [cond_true] at hr
   split at hr
   ·rename_i t wN
    obtain ⟨h',k1,hq,hf,hh⟩:=fO hr
    refine ⟨_,_,_,k1,Step.BQ (.of _ hh rfl (fun u hu=>by rcases zF.1 hu with rfl;exact aB (o:=h.aQ) hq (.head _)) (fun S2 hA=>ny ho t1 t2 (hk.tz t wN) ((hA _ (aB hq (.head _))).2.2 hf)) hd) (fun g v hv=>hv.Cy)⟩
   ·cases hr
  | false=>
   rw [hl] at hr;simp only [cond_false] at hr
   obtain ⟨h',k1,hq,hf,hh⟩:=fO hr
   exact ⟨_,_,_,k1,.of _ hh rfl (fun u hu=>by rcases zF.1 hu with rfl;exact aB (o:=h.aQ) hq (.head _)) (fun S2 hA=>ny ho t1 t2 (BL t6) ((hA _ (aB hq (.head _))).2.2 hf)) hd⟩
 ·cases hr
theorem vw {S:Hp} {T:TypeId} {x:Operand} {ps qs:List A} {q:Nat} (ho:o.op = .box T x) (hx:(ρ x).cells=some ps) (hq:∀g vs,Vs g ps vs→Vs g qs vs) (hf:S.fr q):eX P o ρ S (S.new q (.cells qs)) (.ptr q 0):=by
 intro g w a next Q hI hv K
 have e2:=hq _ _ ((hv x (by simp [ho,Op.operands])).cells hx)
 obtain ⟨h1,h2⟩:=hI.lE hf (cs:=qs) (vs:=(a.eval x).cells) T (by have:=e2.1;simp at this ⊢;omega) e2.all
 unfold Oper.wp
 simp only [execOp,ho,Instr.box,Sem.run_bind,Result.andThen_ok,Sem.run_pure,newVar,newRow,run_newObj]
 exact K _ _ _ (.ptr _ _ w.heap.size _ cn) h1 h2
def Ew (E:Env) (T:Nat) (px:A) (h:H) (K:A→H→Fp→Option β):Option β:=match cz E.dN T,px.cells with
 | some e,some ps=>bif e.lt then (match e.t with
  | some t=>match oT t ps with
   | some x=>mY (.one t x) h (fun q h'=>K (.tp (.loc q) []) h' (.wr [dq q]))
   | none=>none
  | none=>none) else mY (.cells ps) h (fun q h'=>K (.ptr q 0) h' (.wr [dq q]))
 | _,_=>none
theorem Ev {T:Nat} {x:Operand} (ho:o.op = .box T x) (hr:Ew E T (ρ x) h K=some r):Out P o ρ h K r:=by
 have hd:∀c,o.op≠.defer c:=by rw [ho];intro c e;cases e
 unfold Ew at hr
 split at hr
 ·rename_i e ps ht sb
  cases hl:e.lt with
  | true=>
   rw [hl] at hr;simp only [cond_true] at hr
   split at hr
   ·rename_i t wN
    split at hr
    ·rename_i y hy
     obtain ⟨h',k1,hq,hf,hh⟩:=fO hr
     exact ⟨_,_,_,k1,Step.BQ (.of _ hh rfl (fun u hu=>by rcases zF.1 hu with rfl;exact aB (o:=h.aQ) hq (.head _)) (fun S2 hA=>vw ho sb (fun g vs hv=>(i_ t ps y hy).2 vs hv) ((hA _ (aB hq (.head _))).2.2 hf)) hd) (fun g v hv=>hv.Cy)⟩
    ·cases hr
   ·cases hr
  | false=>
   rw [hl] at hr;simp only [cond_false] at hr
   obtain ⟨h',k1,hq,hf,hh⟩:=fO hr
   exact ⟨_,_,_,k1,.of _ hh rfl (fun u hu=>by rcases zF.1 hu with rfl;exact aB (o:=h.aQ) hq (.head _)) (fun S2 hA=>vw ho sb (fun g vs hv=>hv) ((hA _ (aB hq (.head _))).2.2 hf)) hd⟩
 ·cases hr
end
end
section
open Go.RowKit
section
variable {P:Program} {E:Env} {o:Oper} {ρ:Operand→A} {h:H} {β:Type} {K:A→H→Fp→Option β} {r:β}
def LR (E:Env) (T:Nat) (ρ:Operand→A) (ps:List (Nat×Operand)) (h:H) (K:A→H→Fp→Option β):Option β:=match cz E.dN T with
 | some e=>match e.d with
  | .struct _=>match rn ρ (fun i=>e.pl.toArray[i]?) (jM e.zero) ps with
   | some cs=>K (.agg cs) h .no
   | none=>none
  | .array _ el=>match cz E.dN el with
   | some e'=>match rn ρ (fun i=>some (i*e'.size,e'.size)) (jM e.zero) ps with
    | some cs=>K (.agg cs) h .no
    | none=>none
   | none=>none
  | _=>none
 | none=>none
theorem Hv (hE:bW P E) {T:Nat} {ps:Array (Nat×Operand)} (ho:o.op = .build T ps) (hr:LR E T ρ ps.toList h K=some r):Out P o ρ h K r:=by
 have hd:∀c,o.op≠.defer c:=by rw [ho];intro c e;cases e
 unfold LR at hr
 split at hr
 ·rename_i e ht
  have hk:=hE.dN _ _ ht
  split at hr
  ·rename_i fs BE
   split at hr
   ·rename_i cs hf
    obtain ⟨i,t1,t2,t3,t4,t5,t6⟩:=hk.ti
    exact .pure hr (fun S2=>Az ho (by rw [hk.u,BE]) t1 t2 t6 (hk.pl fs BE) hf) hd
   ·cases hr
  ·rename_i n el BE
   split at hr
   ·rename_i e' W_
    split at hr
    ·rename_i cs hf
     exact .pure hr (fun S2=>rY ho (by rw [hk.u,BE]) hk.ti (hE.dN _ _ W_).ti.size hf) hd
    ·cases hr
   ·cases hr
  ·cases hr
 ·cases hr
def D0 (f:List A→H→Option (List A×H×List Nat)) (z:Nat):Nat→List A→H→Option (List A×H×List Nat)
 | 0,cs,h=>some (cs,h,[])
 | n+1,cs,h=>match f (cs.take z) h with
  | some (zj,h1,T1)=>match D0 f z n (cs.drop z) h1 with
   | some (JL,h2,T2)=>some (zj++JL,h2,T1++T2)
   | none=>none
  | none=>none
theorem y0 {f:List A→H→Option (List A×H×List Nat)} (hf:∀cs h hH h' T,f cs h=some (hH,h',T)→Cv h h' T cs hH) {z:Nat}:∀(n:Nat) (cs:List A) (h:H) (hH:List A) (h':H) (T:List Nat),D0 f z n cs h=some (hH,h',T)→Cv h h' T cs hH
 | 0,cs,h,hH,h',T,e=>by
  simp only [D0,zI,zU] at e
  obtain ⟨rfl,rfl,rfl⟩:=e
  exact Cv.refl h [] _
 | n+1,cs,h,hH,h',T,e=>by
  simp only [D0] at e
  split at e
  ·rename_i zj h1 T1 e1
   split at e
   ·rename_i JL h2 T2 e2
    simp only [zI,zU] at e
    obtain ⟨rfl,rfl,rfl⟩:=e
    have:=(hf _ _ _ _ _ e1).append (y0 hf n _ _ _ _ _ e2)
    rwa [zP] at this
   ·cases e
  ·cases e
theorem nj {pv:A} {S:Hp} {T El:TypeId} {n z:Nat} {parts:Array (Nat×Operand)} {ie:TypeInfo} {zv:Value} {es cs:List A} {q:Nat} {g g0:G} {w:World} {a:Act} (ho:o.op = .buildSlice T n parts) (hT:P.underlying T=some (.slice El)) (hE:P.info? El=some ie) (hz:ie.zero=some zv)
  (hs:ie.size=z) (h0:0<z) (hn:n*z≤16777216) (qj:Eb ρ z parts.toList 0=some es) (hl:parts.toList.length=n) (hI:Inv g S w) (hv:∀x∈o.op.operands,V g0 (ρ x) (a.eval x)) (hf:S.fr q) (e5:Vs g cs ((parts.toList.map fun x=>a.eval x.2).flatMap (fun v=>v.cells.toList)))
  (qY:∀g' b,g'.bm q=some (some b,(n*z,n*z))→n≤maxLen→V g' pv (.slice (some ⟨b,0,none⟩) n n)):sn P o S (S.new q (.cells cs)) pv g w a:=by
 intro next Q K
 subst hs
 obtain ⟨e2,e1,e3,e4⟩:=qn (z:=ie.size) (a:=a) (g:=g0) parts.toList 0 es (fun x hx=>hv x.2 (by
  simp only [ho,Op.operands]
  rw [List.mem_toArray]
  exact List.mem_map.2 ⟨x,hx,rfl⟩)) qj
 have KR:((Array.range (n*ie.size)).map (zv.cells[· % zv.cells.size]!)).size=n*ie.size:=by simp
 have Q7:=Go.Great.fill_whole h0 (parts.toList.map fun x=>a.eval x.2) ((Array.range (n*ie.size)).map (zv.cells[· % zv.cells.size]!)) e3 (by simp only [zH];rw [KR,hl])
 have q8:(parts.map fun (i,x)=>(i,a.eval x)).toList=((parts.toList.map fun x=>a.eval x.2).zipIdx 0).map (fun x=>(x.2,x.1)):=by rw [←e2];simp
 generalize BB:(parts.toList.map fun x=>a.eval x.2).flatMap (fun v=>v.cells.toList)=vs at *
 have Wu:vs.length=n*ie.size:=by rw [←e4.1,e1,hl]
 obtain ⟨h1,h2⟩:=hI.lE hf (cs:=cs) (vs:=vs.toArray) El (by have:=e5.1;simp;omega) (Vs.all (vs:=vs.toArray) e5)
 have UC:n≤n*ie.size:=Nat.le_mul_of_pos_right _ h0
 have h8:cs.length=n*ie.size:=by rw [e5.1,Wu]
 have h9:vs.toArray.size=n*ie.size:=by simp [Wu]
 have qY:=qY (jB g q (some w.heap.size,(cs.length,vs.toArray.size))) w.heap.size (by rw [cn,h8,h9]) (by simp only [maxLen];omega)
 unfold Oper.wp
 by_cases Mm:n=0
 ·subst Mm
  have hpe:parts.toList=[]:=zZ hl
  have Ws:vs=[]:=zZ (by rw [Wu];simp)
  have hp3:parts = #[]:=by apply Array.ext';simp [hpe]
  have eQ:(execOp a.eval o).run P w = .ok (.value (.slice (some ⟨w.heap.size,0,none⟩) 0 0)) (w.alloc (.cells #[] El)):=by
   simp [execOp,ho,hp3,Instr.buildSlice,run_underlying hT,sizeOf,typeInfo,hE,Instr.fill,newRow,Array.range_zero']
  rw [eQ]
  subst Ws
  exact K (.slice (some ⟨w.heap.size,0,none⟩) 0 0) _ _ qY h1 h2
 ·have WJ:¬n*ie.size=0:=by
   intro h;rcases Nat.mul_eq_zero.1 h with h | h<;>omega
  have eQ:(execOp a.eval o).run P w = .ok (.value (.slice (some ⟨w.heap.size,0,none⟩) n n)) (w.alloc (.cells vs.toArray El)):=by
   have:=run_buildSlice (P:=P) w T El n (parts.map fun (i,x)=>(i,a.eval x)) vs.toArray ie zv hT hE hz (by omega) WJ (by rw [q8];exact Q7)
   simp only [execOp,ho,Sem.run_bind,this,Result.andThen_ok,Sem.run_pure]
  rw [eQ]
  exact K _ _ _ qY h1 h2
def LO (E:Env) (T n:Nat) (ρ:Operand→A) (ps:List (Nat×Operand)) (h:H) (K:A→H→Fp→Option β):Option β:=match cz E.dN T with
 | some ⟨.slice el,_,_,_,_,_,_⟩=>match cz E.dN el with
  | some e=>bif Nat.blt 0 e.size && Nat.ble (n*e.size) 16777216 && Nat.beq ps.length n then (match Eb ρ e.size ps 0,e.t with
   | some es,some t=>match D0 (fixC 64 t) t.size n es h with
    | some (nH,h1,T1)=>match sw (oT t) t.size n nH with
     | some l=>mY (.row t l) h1 (fun q h2=>K (.tw (.loc q) e.size) h2 (.wr (dq q::T1)))
     | none=>none
    | none=>none
   | some es,none=>mY (.cells es) h (fun q h2=>K (.sl q 0 e.size n) h2 (.wr [dq q]))
   | _,_=>none) else none
  | none=>none
 | _=>none
theorem Step.new {T1:List Nat} {h1 h2:H} {us:List Up} {x:Ob} {pv:A} (c1:hp h1=app us (hp h)) (c2:∀u∈us,aG (.wr T1) u.id=true) (hq:h1.aQ<16777216) (hf:(hp h1).fr h1.aQ) (hh:hp h2=app [.new h1.aQ x] (hp h1)) (hd:∀c,o.op≠.defer c)
  (k:∀S2 g w a,Agree (.wr T1) (hp h) S2→(app us S2).fr h1.aQ→Inv g S2 w→(∀x∈o.op.operands,V g (ρ x) (a.eval x))→sn P o S2 ((app us S2).new h1.aQ x) pv g w a):Step P o ρ h h2 (.wr (dq h1.aQ::T1)) pv:=
 .of (us++[.new h1.aQ x]) (by rw [ir,←c1,hh]) rfl (fun u hu=>by
  rcases zX.1 hu with hu | hu
  ·exact eZ (fun i hi=>.tail _ hi) (c2 u hu)
  ·rcases zF.1 hu with rfl;exact aB (o:=h1.aQ) hq (.head _)) (fun S2 hA g w a next Q hI hv K'=>by
  have nR:(app us S2).fr h1.aQ:=by
   have:=Agree.app us hA
   rw [←c1] at this
   exact (this h1.aQ (aB hq (.head _))).2.2 hf
  have e:=ir us [.new h1.aQ x] S2
  rw [e] at K'
  exact k S2 g w a (hA.mono fun i hi=>.tail _ hi) nR hI hv next Q K') hd
theorem Hs (hE:bW P E) {T n:Nat} {ps:Array (Nat×Operand)} (ho:o.op = .buildSlice T n ps) (hr:LO E T n ρ ps.toList h K=some r):Out P o ρ h K r:=by
  have hd:∀c,o.op≠.defer c:=by rw [ho];intro c e;cases e
  unfold LO at hr
  split at hr
  · rename_i el _ _ _ _ _ _ ht
    split at hr
    · rename_i e he
      obtain ⟨hc,hr⟩:=ah hr
      simp only [zC] at hc
      have h0:=a_ hc.1.1
      have hn:=Nat.le_of_ble_eq_true hc.1.2
      have hl:=beq_eq hc.2
      obtain ⟨i,t1,t2,t3,t4,t5,t6⟩:=(hE.dN _ _ he).ti
      split at hr
      · rename_i es t qj wN
        split at hr
        · rename_i nH h1 T1 hf
          split at hr
          · rename_i l hy
            obtain ⟨us,c1,c2,c3⟩:=y0 (fun cs h hH h' T e=>oF _ _ _ _ _ _ _ e) _ _ _ _ _ _ hf
            obtain ⟨h2,k1,hq,nR,hh⟩:=fO hr
            refine ⟨_,_,_,k1,.new c1 c2 hq nR hh hd (fun S2 g w a hA hf hI hv=>?_)⟩
            obtain ⟨e2,e1,e3,e4⟩:=qn (z:=e.size) (a:=a) (g:=g) ps.toList 0 es (fun x hx=>hv x.2 (by
              simp only [ho,Op.operands]
              rw [List.mem_toArray]
              exact List.mem_map.2 ⟨x,hx,rfl⟩)) qj
            obtain ⟨g1,q1,q2,q3⟩:=c3 g S2 w _ hI hA e4
            obtain ⟨z1,z2,z3⟩:=nY (g:=g1) (fun cs x h=>i_ t cs x h) _ _ _ hy
            refine sn.pre ?_ q2
            refine nj (g0:=g) ho (hE.dN _ _ ht).u t1 t2 t3 h0 hn qj hl q1 hv hf ?_ (fun g' b hb hx=>.tw (.loc h1.aQ) e.size n b n _ hb (Nat.le_refl _) hx (Nat.le_refl _) 0 (fun _=>rfl))
            exact z3 _ q3
          · cases hr
        · cases hr
      · rename_i es qj wN
        obtain ⟨h2,k1,hq,nR,hh⟩:=fO hr
        refine ⟨_,_,_,k1,.of _ hh rfl (fun u hu=>by rcases zF.1 hu with rfl;exact aB (o:=h.aQ) hq (.head _)) (fun S2 hA g w a next Q hI hv K'=>?_) hd⟩
        obtain ⟨e2,e1,e3,e4⟩:=qn (z:=e.size) (a:=a) (g:=g) ps.toList 0 es (fun x hx=>hv x.2 (by
              simp only [ho,Op.operands]
              rw [List.mem_toArray]
              exact List.mem_map.2 ⟨x,hx,rfl⟩)) qj
        exact nj (g0:=g) ho (hE.dN _ _ ht).u t1 t2 t3 h0 hn qj hl hI hv ((hA _ (aB hq (.head _))).2.2 nR) e4 (fun g' b hb hx=>.sl h.aQ 0 e.size n b n _ hb (Nat.le_refl _) hx (by omega)) next Q K'
      · cases hr
    · cases hr
  · cases hr
end
end
section
open Go.RowKit
section
variable {P:Program} {E:Env} {o:Oper} {ρ:Operand→A} {h:H} {β:Type} {K:A→H→Fp→Option β} {r:β}
theorem V.qy {g:G} {S:Hp} {w:World} (hI:Inv g S w) {X:Ref} {t:Ty} {l:List t.T} (h0:0<t.size) (ho:S.ob X.id=some (.cells (l.flatMap (aA t)))) {v:Value} (hv:V g (.tw X t.size) v) :
  (∃ad,g.bm X.id=some (none,(0,0))∧v = .slice ad 0 0∧l=[])∨∃b s cap d,g.bm X.id=some (some b,s)∧v = .slice (some ⟨b,d,none⟩) l.length cap∧(cap≠0→d=0)∧l.length≤cap∧cap≤maxLen∧cap*t.size≤s.2:=by
 have hlen:=bc t l
 cases hv with
 | sr _ _ ad bL=>
  rcases hI.cells _ _ ho with ⟨_,k2⟩ | ⟨b,tt,k1,_⟩
  ·refine .inl ⟨ad,bL,rfl,zZ ?_⟩
   rw [k2] at hlen
   rcases Nat.eq_zero_or_pos l.length with h | h
   ·exact h
   ·have:0<l.length*t.size:=Nat.mul_pos h h0
    simp at hlen;omega
  ·rw [k1] at bL;cases bL
 | tw _ _ m b cap tt bL hn nQ hp d mZ=>
  rcases hI.cells _ _ ho with ⟨k1,_⟩ | ⟨b',Fv,k1,_⟩
  ·rw [k1] at bL;cases bL
  have K7:=bL
  rw [k1] at bL
  simp only [zI,zU] at bL
  obtain ⟨rfl,hl,rfl⟩:=bL
  rw [hlen] at hl
  have hm:l.length=m:=Nat.eq_of_mul_eq_mul_right h0 hl
  subst hm
  exact .inr ⟨b',_,cap,d,K7,rfl,mZ,hn,nQ,hp⟩
def QF (h:H) (px:A) (k:Nat→List Nat→Option β):Option β:=match px with
 | .e0=>k 0 []
 | .v (.slice _ n _)=>k n []
 | .tl _ _ l=>k (len l) []
 | .tw X z=>jb h X (fun t l=>bif Nat.beq z t.size && Nat.blt 0 t.size then k (len l) [iE X] else none)
 | .ts _ _ _ n=>k n []
 | .tf _ _ _ n=>k n []
 | .aa _ _ n _=>k n []
 | .sl _ _ _ n=>k n []
 | _=>none
theorem V.Oy {g:G} {t:Ty} {f:Bool} {l:List t.T} {v:Value} (hv:V g (.tl t f l) v):∃ad c,v = .slice ad l.length c:=by
 cases hv with
 | tl _ _ _ _ hd=>
  generalize qj:List.map (cY t) l=es at hd
  have pq:es.length=l.length:=by rw [←qj,zH]
  cases hd with
  | tn=>rw [←pq];exact ⟨_,_,rfl⟩
  | sl _ _ _ a cap vs=>rw [←pq];exact ⟨_,_,rfl⟩
theorem GA {px:A} {k:Nat→List Nat→Option β} (hr:QF h px k=some r):∃n T,k n T=some r∧∀S2,Agree (.rd T) (hp h) S2→∀g w v,Inv g S2 w→V g px v→∃ad c,v = .slice ad n c:=by
 cases px with
 | e0=>exact ⟨0,[],hr,fun S2 _ g w v _ hv=>by cases hv with | e0 ad=>exact ⟨ad,0,rfl⟩⟩
 | v x=>cases x with
  | slice ad n c=>exact ⟨n,[],hr,fun S2 _ g w v _ hv=>by cases hv;exact ⟨_,_,rfl⟩⟩
  | _=>cases hr
 | tl t f l=>exact ⟨len l,[],hr,fun S2 _ g w v _ hv=>hv.Oy⟩
 | tw X z=>
  obtain ⟨t,l,hr,hX,eY⟩:=eO (show jb h X _=some r from hr)
  obtain ⟨h1,hk⟩:=ah hr
  simp only [zC] at h1
  obtain rfl:=beq_eq h1.1
  exact ⟨_,_,hk,fun S2 hA g w v hI hv=>by
   rcases hv.qy hI (a_ h1.2) ((hA _ (bI hX (.head _))).1.trans eY) with ⟨ad,_,rfl,rfl⟩ | ⟨b,s,cap,d,_,rfl,_⟩
   ·exact ⟨ad,0,rfl⟩
   ·exact ⟨_,cap,rfl⟩⟩
 | ts X z off n=>exact ⟨n,[],hr,fun S2 _ g w v _ hv=>by
   cases hv with
   | su _ _ _ _ ad _ hn=>exact ⟨ad,0,by rw [show n=0 by omega]⟩
   | ts=>exact ⟨_,_,rfl⟩⟩
 | tf X z off n=>exact ⟨n,[],hr,fun S2 _ g w v _ hv=>by
   cases hv with
   | B0 _ _ _ _ ad _ hn=>exact ⟨ad,0,by rw [show n=0 by omega]⟩
   | tf=>exact ⟨_,_,rfl⟩⟩
 | aa X π n z=>exact ⟨n,[],hr,fun S2 _ g w v _ hv=>by cases hv;exact ⟨_,_,rfl⟩⟩
 | sl q off z n=>exact ⟨n,[],hr,fun S2 _ g w v _ hv=>by cases hv;exact ⟨_,_,rfl⟩⟩
 | _=>cases hr
def xl (E:Env) (T:Nat):Option Nat:=match cz E.dN T with
 | some ⟨.slice el,_,_,_,_,_,_⟩=>some el
 | _=>none
theorem ot (hE:bW P E) {T el:Nat} (h:xl E T=some el):P.underlying T=some (.slice el):=by
 unfold xl at h
 split at h
 ·rename_i ht;cases h;exact (hE.dN _ _ ht).u
 ·cases h
def KH (E:Env) (T:Nat) (px:A) (h:H) (K:A→H→Fp→Option β):Option β:=match xl E T with
 | some _=>QF h px (fun n T=>K (.v (.int .i64 (zN n))) h (.rd T))
 | none=>none
theorem Gz (hE:bW P E) {T:Nat} {x:Operand} (ho:o.op = .call { callee:=.builtin .len,args:=#[x],argTypes:=#[T] }) (hr:KH E T (ρ x) h K=some r):Out P o ρ h K r:=by
 unfold KH at hr
 split at hr
 ·rename_i el he
  obtain ⟨n,T',h1,h2⟩:=GA hr
  exact .read _ h1 (fun S2 hA=>Gc ho ⟨el,ot hE he⟩ (h2 S2 hA)) (by rw [ho];intro c e;cases e)
 ·cases hr
def xG {α:Type} (d:α) (n:Nat) (l:List α):List α:=(List.range n).map (nth d l)
theorem A7 {α β:Type} (f:α→List β) (d:α) (n:Nat) (l:List α):(xG d n l).flatMap f=EA f d n l:=by
 unfold xG EA
 rw [List.flatMap_map]
theorem D1 {α:Type} (d:α) (n:Nat) (l:List α):(xG d n l).length=n:=by simp [xG]
def wX (h:H) (t:Ty) (py:A) (k:List t.T→List Nat→Option β):Option β:=match py with
 | .e0=>k [] []
 | .v (.slice _ 0 _)=>k [] []
 | .tl t' _ l=>match fK (.aJ t') (.aJ t) l with
  | some l'=>bif t.data then k l' [] else none
  | none=>none
 | .nn t' l=>match fK (.aJ t') (.aJ t) l with
  | some l'=>bif t.data then k l' [] else none
  | none=>none
 | .os r z o=>opt o (k [] []) (fun j=>jb h (.eF r j) (fun t' l=>match fK (.aJ t') (.aJ t) l with
  | some l'=>bif Nat.beq z t.size && Nat.blt 0 t.size then k l' [iE (.eF r j)] else none
  | none=>none))
 | .tw X z=>jb h X (fun t' l=>match fK (.aJ t') (.aJ t) l with
  | some l'=>bif Nat.beq z t.size && Nat.blt 0 t.size then k l' [iE X] else none
  | none=>none)
 | .ts X z off n=>jb h X (fun t' l=>match fK (.aJ t') (.aJ t) l with
  | some l'=>bif Nat.beq z t.size && Nat.blt 0 t.size then k (tk n (dr off l')) [iE X] else none
  | none=>none)
 | .tf X z off n=>jb h X (fun t' l=>match fK (.aJ t') (.aJ t) l with
  | some l'=>bif Nat.beq z t.size && Nat.blt 0 t.size then k (tk n (dr off l')) [iE X] else none
  | none=>none)
 | .aa X π n z=>qP h X π (fun sg=>match fK sg.t (.arr n t) sg.x with
  | some l=>bif Nat.beq z t.size then k (xG t.cM n l) [iE X] else none
  | none=>none)
 | .sl q off z n=>match h.t.get q with
  | some (.cells cs)=>bif Nat.blt q 16777216 && Nat.beq z t.size && Nat.ble (off+n*z) cs.length then (match sw (oT t) t.size n ((cs.drop off).take (n*z)) with
   | some l=>k l [dq q]
   | none=>none) else none
  | _=>none
 | _=>none
theorem Given.conv {g:G} {w:World} {v:Value} {sz m:Nat} {ps qs:List A} (k:Given g w v sz m ps) (hc:∀vs,Vs g ps vs→Vs g qs vs):Given g w v sz m qs:=by
 obtain ⟨A2,lX,us,h1,h2,h3,h4⟩:=k
 exact ⟨A2,lX,us,h1,hc _ h2,h3,h4⟩
theorem V.ye {g:G} {S:Hp} {w:World} (hI:Inv g S w) {t:Ty} (hd:t.data=true) {f:Bool} {l:List t.T} {v:Value} (hv:V g (.tl t f l) v):Given g w v t.size l.length (l.flatMap (aA t)):=by
 cases hv with
 | tl _ _ _ _ hv=>
  generalize qj:List.map (cY t) l=es at hv
  have pq:es.length=l.length:=by rw [←qj,zH]
  have E_:es.flatten=l.flatMap (cY t):=by rw [←qj,kX]
  cases hv with
  | tn=>
   have:l=[]:=zZ pq.symm
   subst this
   exact .zero ⟨_,_,rfl⟩
  | sl _ _ _ a cap vs hz hc hf hn hx hl hm E6=>
   rw [E_] at E6 hl
   have BB:kG g.mem (l.flatMap (cY t)) vs:=⟨hl,E6⟩
   have h1:=DZ (g:=g) (f:=aA t) (f':=cY t) (fun x us hu=>kG.cells t x us hd hu) (fun x=>by rw [bK,dY]) l vs BB
   rw [pq]
   refine ⟨_,cap,vs,rfl,h1,by rw [←h1.1,bc],fun h0=>?_⟩
   cases a with
   | none=>have:=hn rfl;omega
   | some p=>
    refine ⟨_,rfl,fun j x hj=>?_⟩
    obtain ⟨cur,ty,fz,q1,q2⟩:=hI.mem _ _ _ (hm p j x rfl hj)
    rw [show (UR p).add j=⟨p.1,p.2+j,none⟩ from Addr.add_lit _ _ _,cell_of_row w p.1 _ cur ty _ q1];exact q2
theorem piece {g:G} {S:Hp} {w:World} (hI:Inv g S w) {X:Ref} {t:Ty} {l:List t.T} {off n b cap d:Nat} {s:Nat×Nat} (_h0:0<t.size) (eY:S.ob X.id=some (.cells (l.flatMap (aA t)))) (bL:g.bm X.id=some (some b,s)) (hle:off+n≤l.length) (hd:n≠0→d=off*t.size) :
  Given g w (.slice (some ⟨b,d,none⟩) n cap) t.size (tk n (dr off l)).length ((tk n (dr off l)).flatMap (aA t)):=by
 have hl:(tk n (dr off l)).length=n:=by simp [tk,dr];omega
 rw [hl]
 rcases Nat.eq_zero_or_pos n with h0 | h0
 ·subst h0
  rw [show tk 0 (dr off l)=[] from by simp [tk]]
  exact .zero ⟨_,cap,rfl⟩
 ·obtain rfl:=hd (by omega)
  have:=hI.given (off:=off*t.size) (sz:=t.size) (m:=n) (cap:=cap) eY bL (by rw [bc,←Nat.add_mul];exact zW _ hle)
  rw [iH] at this
  exact this
theorem tg {t:Ty} {py:A} {k:List t.T→List Nat→Option β} (hr:wX h t py k=some r):∃l T,k l T=some r∧∀S2,Agree (.rd T) (hp h) S2→∀g w v,Inv g S2 w→V g py v→Given g w v t.size l.length (l.flatMap (aA t)):=by
 cases py with
 | e0=>exact ⟨[],[],hr,fun S2 _ g w v _ hv=>by cases hv with | e0 ad=>exact .zero ⟨ad,0,rfl⟩⟩
 | v x=>cases x with
  | slice ad n c=>cases n with
   | zero=>exact ⟨[],[],hr,fun S2 _ g w v _ hv=>by cases hv;exact .zero ⟨_,_,rfl⟩⟩
   | succ n=>cases hr
  | _=>cases hr
 | tl t' f l=>
  unfold wX at hr
  simp only at hr
  split at hr
  ·rename_i l' hl
   obtain ⟨e,rfl⟩:=cr hl
   cases e
   obtain ⟨h1,hr⟩:=ah hr
   exact ⟨_,[],hr,fun S2 _ g w v hI hv=>hv.ye hI h1⟩
  ·cases hr
 | nn t' l=>
  unfold wX at hr
  simp only at hr
  split at hr
  ·rename_i l' hl
   obtain ⟨e,rfl⟩:=cr hl
   cases e
   obtain ⟨h1,hr⟩:=ah hr
   exact ⟨_,[],hr,fun S2 _ g w v hI hv=>by cases hv with | nn _ _ a n c h=>exact (V.tl _ false _ _ h).ye hI h1⟩
  ·cases hr
 | os q z o=>
  rcases ic (show opt o (k [] []) _=some r from hr) with ⟨e0,hr⟩ | ⟨jj,e0,hr⟩
  ·exact ⟨[],[],hr,fun S2 _ g w v _ hv=>by
    cases hv with
    | os _ _ _ _ h0 _=>cases h0 e0 with | e0 ad=>exact .zero ⟨ad,0,rfl⟩⟩
  ·obtain ⟨t',l,hr,hX,eY⟩:=eO (show jb h (.eF q jj) _=some r from hr)
   split at hr
   ·rename_i l' hl
    obtain ⟨e,rfl⟩:=cr hl
    cases e
    obtain ⟨h1,hk⟩:=ah hr
    simp only [zC] at h1
    have ez:=beq_eq h1.1
    subst ez
    refine ⟨_,_,hk,fun S2 hA g w v hI KQ=>?_⟩
    have hv:V g (.tw (.eF q jj) t.size) v:=by cases KQ with | os _ _ _ _ _ h1=>exact h1 jj e0
    have dX:=(hA _ (bI hX (.head _))).1.trans eY
    rcases hv.qy hI (a_ h1.2) dX with ⟨ad,_,rfl,rfl⟩ | ⟨b,s,cap,d,bL,rfl,hd,hn,_⟩
    ·exact .zero ⟨ad,0,rfl⟩
    ·rcases Nat.eq_zero_or_pos l.length with h0 | h0
     ·have:l=[]:=zZ h0
      subst this
      exact .zero ⟨_,cap,rfl⟩
     ·obtain rfl:=hd (by omega)
      have:=hI.given (off:=0) (sz:=t.size) (m:=l.length) (cap:=cap) dX bL (by rw [bc];omega)
      rw [List.drop_zero,za (by rw [bc];exact Nat.le_refl _)] at this
      exact this
   ·cases hr
 | tw X z=>
  obtain ⟨t',l,hr,hX,eY⟩:=eO (show jb h X _=some r from hr)
  split at hr
  ·rename_i l' hl
   obtain ⟨e,rfl⟩:=cr hl
   cases e
   obtain ⟨h1,hk⟩:=ah hr
   simp only [zC] at h1
   obtain rfl:=beq_eq h1.1
   refine ⟨_,_,hk,fun S2 hA g w v hI hv=>?_⟩
   have dX:=(hA _ (bI hX (.head _))).1.trans eY
   rcases hv.qy hI (a_ h1.2) dX with ⟨ad,_,rfl,rfl⟩ | ⟨b,s,cap,d,bL,rfl,hd,hn,_⟩
   ·exact .zero ⟨ad,0,rfl⟩
   ·rcases Nat.eq_zero_or_pos l.length with h0 | h0
    ·have:l=[]:=zZ h0
     subst this
     exact .zero ⟨_,cap,rfl⟩
    ·obtain rfl:=hd (by omega)
     have:=hI.given (off:=0) (sz:=t.size) (m:=l.length) (cap:=cap) dX bL (by rw [bc];omega)
     rw [List.drop_zero,za (by rw [bc];exact Nat.le_refl _)] at this
     exact this
  ·cases hr
 | ts X z off n=>
  obtain ⟨t',l,hr,hX,eY⟩:=eO (show jb h X _=some r from hr)
  split at hr
  ·rename_i l' hl
   obtain ⟨e,rfl⟩:=cr hl
   cases e
   obtain ⟨h1,hk⟩:=ah hr
   simp only [zC] at h1
   obtain rfl:=beq_eq h1.1
   refine ⟨_,_,hk,fun S2 hA g w v hI hv=>?_⟩
   have dX:=(hA _ (bI hX (.head _))).1.trans eY
   have hle:=ss hI (a_ h1.2) dX hv
   cases hv with
   | su _ _ _ _ ad _ hn=>
    rw [show n=0 by omega,show tk 0 (dr off l)=[] by simp [tk]]
    exact .zero ⟨ad,0,rfl⟩
   | ts _ _ _ _ b cap s bL hn hx hs KV d hd=>exact piece hI (a_ h1.2) dX bL hle (fun Mm=>hd (by omega))
  ·cases hr
 | tf X z off n=>
  obtain ⟨t',l,hr,hX,eY⟩:=eO (show jb h X _=some r from hr)
  split at hr
  ·rename_i l' hl
   obtain ⟨e,rfl⟩:=cr hl
   cases e
   obtain ⟨h1,hk⟩:=ah hr
   simp only [zC] at h1
   obtain rfl:=beq_eq h1.1
   refine ⟨_,_,hk,fun S2 hA g w v hI hv=>?_⟩
   have dX:=(hA _ (bI hX (.head _))).1.trans eY
   cases hv with
   | B0 _ _ _ _ ad _ hn=>
    rw [show n=0 by omega,show tk 0 (dr off l)=[] by simp [tk]]
    exact .zero ⟨ad,0,rfl⟩
   | tf _ _ _ _ b s bL hx hs d hd=>
    have hle:off+n≤l.length:=by
     rcases hI.cells _ _ dX with ⟨k1,_⟩ | ⟨b',Fv,k1,_⟩
     ·rw [k1] at bL;cases bL
     rw [k1] at bL
     simp only [zI,zU] at bL
     obtain ⟨_,rfl⟩:=bL
     simp only [bc] at hs
     exact Nat.le_of_mul_le_mul_right hs (a_ h1.2)
    exact piece hI (a_ h1.2) dX bL hle hd
  ·cases hr
 | aa X π n z=>
  obtain ⟨sg,hk,hX,h2⟩:=sE (show qP h X π _=some r from hr)
  split at hk
  ·rename_i l hl
   obtain ⟨st,sx⟩:=sg
   obtain ⟨e,hl⟩:=cr hl
   simp only at e hl h2
   subst e
   simp only at hl
   subst hl
   obtain ⟨h1,hk⟩:=ah hk
   refine ⟨_,_,hk,fun S2 hA g w v hI hv=>?_⟩
   obtain rfl:=beq_eq h1
   cases hv with
   | aa _ _ _ _ b cap s bL hp hn hx=>
    have ha:=hA _ (bI hX (.head _))
    obtain ⟨a,c,q1,q2⟩:=h2 g _ w _ hI ha.1 ha.2 (.tp X π b s bL hp)
    have e1:(xG (α:=t.T) t.cM n sx).flatMap (aA t)=aA (.arr n t) sx:=A7 _ _ _ _
    have e3:(xG (α:=t.T) t.cM n sx).length=n:=D1 _ _ _
    have e2:(aA (.arr n t) sx).length=n*t.size:=bK (.arr n t) sx
    have:=hI.given (off:=dy π) (sz:=t.size) (m:=n) (cap:=cap) q1 bL (by simp only [zY];rw [e2];omega)
    rw [←q2,List.drop_left,←e2,List.take_left,q2] at this
    exact Eq.subst (motive:=fun k=>Given g w _ t.size k _) e3.symm (Eq.subst (motive:=fun cs=>Given g w _ t.size n cs) e1.symm this)
  ·cases hk
 | sl q off z n=>
  unfold wX at hr
  simp only at hr
  split at hr
  ·rename_i cs hg
   obtain ⟨h1,hr⟩:=ah hr
   simp only [zC] at h1
   have hq:=a_ h1.1.1
   obtain rfl:=beq_eq h1.1.2
   split at hr
   ·rename_i l hy
    refine ⟨_,_,hr,fun S2 hA g w v hI hv=>?_⟩
    obtain ⟨z1,z2,z3⟩:=nY (g:=g) (fun cs x h=>i_ t cs x h) _ _ _ hy
    have eY:(hp h).ob q=some (.cells cs):=by rw [jY hq];unfold fG;rw [hg];rfl
    cases hv with
    | sl _ _ _ _ b cap s bL hn hx hs=>
     rw [z2]
     exact (hI.given ((hA q (aB hq (.head _))).1.trans eY) bL (Nat.le_of_ble_eq_true h1.2)).conv z3
   ·cases hr
  ·cases hr
 | _=>cases hr
end
end
section
open Go.RowKit
section
variable {P:Program} {E:Env} {o:Oper} {ρ:Operand→A} {h:H} {β:Type} {K:A→H→Fp→Option β} {r:β}
theorem vd (t:Ty) (n:Nat) (x:t.T):(rep n x).flatMap (aA t)=pa n (aA t x):=by
 unfold rep pa
 induction n with
 | zero=>rfl
 | succ n ih=>rw [List.replicate_succ,List.replicate_succ,List.flatMap_cons,List.flatten_cons,ih]
def Wc (E:Env) (T:Nat) (same:Bool) (px:A) (h:H) (K:A→H→Fp→Option β):Option β:=match xl E T with
 | some el=>match cz E.dN el,px with
  | some e,.v (.int _ m)=>match e.t with
   | some t=>bif same && Nat.blt 0 e.size && Nat.ble (16777216*e.bytes) 281474976710656 then gd (bn m) (gd (bz (nN m) 16777216) (mY (.row t (rep (nN m) t.cM)) h (fun q h'=>K (.tw (.loc q) e.size) h' (.wr [dq q])))) else none
   | none=>none
  | _,_=>none
 | none=>none
theorem KD (hE:bW P E) {T:Nat} {x y:Operand} {same:Bool} (ho:o.op = .makeSlice T x y) (hs:same=true→x=y) (hr:Wc E T same (ρ x) h K=some r):Out P o ρ h K r:=by
 have hd:∀c,o.op≠.defer c:=by rw [ho];intro c e;cases e
 unfold Wc at hr
 split at hr
 ·rename_i el he
  split at hr
  ·rename_i e k m ht hx
   split at hr
   ·rename_i t wN
    obtain ⟨h1,hr⟩:=ah hr
    simp only [zC] at h1
    obtain rfl:=hs h1.1.1
    obtain ⟨h2,hr⟩:=bA hr
    obtain ⟨h3,hr⟩:=bA hr
    have h3:nN m≤16777216:=h3
    obtain ⟨h',k1,hq,hf,hh⟩:=fO hr
    have hk:=hE.dN _ _ ht
    have hb:=Nat.le_of_ble_eq_true h1.2
    refine ⟨_,_,_,k1,.of _ hh rfl (fun u hu=>by rcases zF.1 hu with rfl;exact aB (o:=h.aQ) hq (.head _)) (fun S2 hA=>?_) hd⟩
    have e1:gw.low (.row t (rep (nN m) t.cM)) = .cells (pa (nN m) (aA t t.cM)):=congrArg Ob.cells (vd t _ _)
    rw [e1]
    have nQ:ρ x = .v (.int k ((nN m:Nat):Int)):=by rw [hx,nf h2]
    exact rW ho (ot hE he) hk.ti (a_ h1.1.2) nQ nQ (Nat.le_trans (zW _ h3) hb) (by omega) ((hA _ (aB hq (.head _))).2.2 hf) (hk.tz t wN)
   ·cases hr
  ·cases hr
 ·cases hr
def Lw (h:H) (X:Ref) (k:H→Option β):Option β:=bif vK h (iE X) then none else match X with
 | .loc o=>ff h.t o none (fun t1=>k { h with t:=t1 })
 | .eF r j=>match bu h.rg r with
  | some ⟨_,.row t',c⟩=>bif Nat.blt r 64 then gd (bp j (len (α:=Option (List t'.T)) c)) (k { h with rg:=ja h.rg r (.row t') (aS (α:=Option (List t'.T)) c j none) }) else none
  | _=>none
theorem qH {t:Ty} {c:List (Option (List t.T))} {j:Nat} (hj:j<c.length) (i:Nat):dP (.row t) (aS c j none) i=if i=j then none else dP (.row t) c i:=by
 show (match kV (aS c j none) i with | some (some l)=>some (Ob.cells (l.flatMap (aA t))) | _=>none)=if i=j then none else (match kV c i with | some (some l)=>some (Ob.cells (l.flatMap (aA t))) | _=>none)
 rw [oC]
 by_cases h:i=j
 ·subst h;rw [if_pos ⟨rfl,hj⟩,if_pos rfl]
 ·rw [if_neg (fun k=>h k.1),if_neg h]
theorem zf {X:Ref} {k:H→Option β} (hr:Lw h X k=some r):∃h',k h'=some r∧AD X=true∧hp h'=app [.del X.id] (hp h)∧h'.aQ=h.aQ:=by
 obtain ⟨_,hr⟩:=iY hr
 cases X with
 | loc o=>
  obtain ⟨hq,t1,k1,k2⟩:=bt hr
  exact ⟨_,k1,by show Nat.blt o 16777216=true;simpa using (AM hq),q_ (AM hq) k2,rfl⟩
 | eF r j=>
  simp only at hr
  split at hr
  ·rename_i _ t' c hf
   obtain ⟨h3,hr⟩:=ah hr
   obtain ⟨h4,hr⟩:=bA hr
   have dD:j<List.length (α:=Option (List t'.T)) c:=h4
   refine ⟨_,hr,h3,?_,rfl⟩
   exact q9 (j:=j) (u:=.del (fj r j)) (a_ h3) hf (p_ (α:=Option (List t'.T)) c j _) (fun i hi=>by rw [qH (c:=c) dD,if_neg hi]) rfl (by rw [qH (c:=c) dD,if_pos rfl];exact if_pos rfl) rfl
  ·cases hr
def tZ:A→Bool
 | .e0=>true
 | .v (.slice _ 0 0)=>true
 | _=>false
theorem V.AH {g:G} {p:A} {v:Value} (hv:V g p v) (h:tZ p=true):∃ad,v = .slice ad 0 0:=by
 unfold tZ at h
 split at h
 ·cases hv with | e0 ad=>exact ⟨ad,rfl⟩
 ·cases hv;exact ⟨_,rfl⟩
 ·cases h
theorem rZ {S:Hp} {T E':TypeId} {z b m n:Nat} {X:Ref} {zv:Value} {cs ps:List A} {x y:Operand} (ho:o.op = .call { callee:=.builtin .append,args:=#[x,y],argTypes:=#[T,T] }) (hT:P.underlying T=some (.slice E')) (hE:TI P E' z b zv) (h0:0<z)
  (hp:S.ob X.id=some (.cells cs)) (hx:ρ x = .ts X z 0 n) (pV:(n+m)*z≤cs.length) (hy:∀g w v,Inv g S w→V g (ρ y) v→Given g w v z m ps):eX P o ρ S (S.set X.id (.cells (put cs (n*z) ps))) (.ts X z 0 (n+m)):=
 .app ho fun g w a hI e1 e2=>by
  obtain ⟨i,t1,t2,t3,t4,t5,t6⟩:=hE
  subst t3 t4
  have GY:eL P E' i.size:=⟨i,t1,rfl⟩
  obtain ⟨A2,lX,us,vP,pn,ou,AW⟩:=hy g w _ hI e2
  rw [hx] at e1
  generalize hu:a.eval x=vx at e1 ⊢
  cases e1 with
  | su _ _ _ _ ad hg hn=>
   rcases hI.cells X.id cs hp with ⟨_,k2⟩ | ⟨b',t,k1,_⟩
   ·subst k2
    have hn:n=0:=by omega
    subst hn
    have hm:m=0:=by
     rcases Nat.eq_zero_or_pos m with h | h
     ·exact h
     ·have:0<(0+m)*i.size:=Nat.mul_pos (by omega) h0
      simp only [List.length_nil] at pV;omega
    subst hm
    have sb:ps=[]:=zZ (by rw [pn.1,ou];simp)
    subst sb
    have hS:S.set X.id (.cells (put [] (0*i.size) []))=S:=by
     refine Hp.ext' (fun j=>?_) (fun j=>Iff.rfl)
     show (if j=X.id then some (.cells (put [] (0*i.size) [])) else S.ob j)=S.ob j
     by_cases hj:j=X.id
     ·subst hj;rw [if_pos rfl,hp];simp [put]
     ·rw [if_neg hj]
    rw [hS,vP]
    exact ⟨_,g,w,gQ w T E' o.type hT GY _ A2 0 0 lX (Nat.le_refl _),.su X i.size 0 (0+0) ad hg (by simp),hI,.refl S g w⟩
   ·rw [k1] at hg;cases hg
  | ts _ _ _ _ bk cap s hg UB Mp hs KV d hd hq=>
   rw [vP]
   rw [Nat.zero_add] at KV hq
   have sb:ps.length=m*i.size:=by rw [pn.1,ou]
   have hlen:(put cs (n*i.size) ps).length=cs.length:=tC (by rw [sb,←Nat.add_mul];exact pV)
   rcases hI.cells X.id cs hp with ⟨k1,_⟩ | ⟨b',t,k1,cur,ty,k2,oU,k3⟩
   ·rw [k1] at hg;cases hg
   have Mo:=hg
   rw [k1] at hg;simp at hg
   obtain ⟨rfl,rfl⟩:=hg
   simp only at hq KV hs
   have pL:n+m≤cap:=Nat.le_of_mul_le_mul_right (Nat.le_trans pV hq) h0
   have nh:(0+(n+m))*i.size≤(cs.length,t).1:=by rw [Nat.zero_add];exact pV
   have qY:∀g',g'.bm X.id=some (some b',(cs.length,t))→V g' (.ts X i.size 0 (n+m)) (.slice (some ⟨b',d,none⟩) (n+m) cap):=fun g' bL=>.ts X i.size 0 (n+m) b' cap _ bL pL Mp nh (by rw [Nat.zero_add];exact KV) d hd (by rw [Nat.zero_add];exact hq)
   rcases Nat.eq_zero_or_pos m with rfl | hm
   ·have sb:ps=[]:=zZ (by rw [sb];simp)
    subst sb
    have AU:put cs (n*i.size) []=cs:=by simp [put]
    have hS:S.set X.id (.cells (put cs (n*i.size) []))=S:=by
     rw [AU]
     refine Hp.ext' (fun j=>?_) (fun j=>Iff.rfl)
     show (if j=X.id then some (.cells cs) else S.ob j)=S.ob j
     by_cases hj:j=X.id
     ·subst hj;rw [if_pos rfl,hp]
     ·rw [if_neg hj]
    rw [hS]
    exact ⟨_,g,w,gQ w T E' o.type hT GY _ A2 n cap lX UB,qY g Mo,hI,.refl S g w⟩
   ·obtain ⟨Fj,rfl,mg⟩:=AW hm
    obtain rfl:=hd (by omega)
    have Ml:(n+m)*i.size≤cs.length:=pV
    rw [Nat.add_mul] at Ml
    obtain ⟨ae7,ty',c1,c2,c3,c4⟩:=hI.store (off:=n*i.size) hp Mo pn (by rw [sb];exact Ml)
    rw [k2] at c1
    simp only [zI,Obj.cells.injEq,and_true] at c1
    obtain ⟨rfl,rfl⟩:=c1
    have eQ:=kL (P:=P) w T o.type E' ty i hT t1 b' n cap cur k2 Fj m lX us ou mg pn.one pL c2
    rw [Nat.zero_mul]
    exact ⟨_,g,_,eQ,by have:=qY g Mo;rwa [Nat.zero_mul] at this,c3,c4⟩
def LU (E:Env) (T:Nat) (px py:A) (h:H) (K:A→H→Fp→Option β):Option β:=match xl E T with
 | some el=>match cz E.dN el with
  | some e=>match e.t with
   | some t=>bif Nat.blt 0 e.size && Nat.ble (16777216*e.bytes) 140737488355328 then wX h t py (fun l T1=>
    bif tZ px then gd (bz (len l) 16777216) (mY (.row t l) h (fun q h'=>K (.tw (.loc q) e.size) h' (.pt (dq q) T1)))
    else match px with
    | .tw X z=>jb h X (fun t' l0=>match fK (.aJ t') (.aJ t) l0 with
     | some l0=>bif Nat.beq z e.size then gd (bz (aK (len (α:=t.T) l0) (len l)) 16777216) (Lw h X (fun h1=>mY (.row t (cat (α:=t.T) l0 l)) h1 (fun q h2=>K (.tw (.loc q) e.size) h2 (.p2 (dq q) (iE X) T1)))) else none
     | none=>none)
    | .ts X z 0 n=>jb h X (fun t' l0=>match fK (.aJ t') (.aJ t) l0 with
     | some l0=>bif Nat.beq z e.size then (match py with
      | .ts _ _ _ _=>gd (bz (aK n (len l)) (len (α:=t.T) l0)) (qO h X t (cat (tk (α:=t.T) n l0) (cat l (dr (α:=t.T) (aK n (len l)) l0))) (fun h1=>K (.ts X z 0 (aK n (len l))) h1 (.wr (iE X::T1))))
      | _=>gd (bz (aK n (len l)) 16777216) (Lw h X (fun h1=>mY (.row t (cat (tk (α:=t.T) n l0) l)) h1 (fun q h2=>K (.tw (.loc q) e.size) h2 (.p2 (dq q) (iE X) T1))))) else none
     | none=>none)
    | .tf X z off n=>br (af (zN n) 0) (gd (bz (len l) 16777216) (mY (.row t l) h (fun q h'=>K (.tw (.loc q) e.size) h' (.pt (dq q) T1)))) (jb h X (fun t' l0=>match fK (.aJ t') (.aJ t) l0 with
     | some l0=>bif Nat.beq z e.size then gd (bp 0 (len l)) (gd (bz (aK n (len l)) 16777216) (mY (.row t (cat (tk n (dr (α:=t.T) off l0)) l)) h (fun q h2=>K (.tw (.loc q) e.size) h2 (.p2 (dq q) (iE X) T1)))) else none
     | none=>none))
    | _=>none) else none
   | none=>none
  | none=>none
 | none=>none
theorem iU (t:Ty) (a b:List t.T):(cat a b).flatMap (aA t)=a.flatMap (aA t)++b.flatMap (aA t):=List.flatMap_append
theorem um (t:Ty) (n:Nat) (l:List t.T):(tk n l).flatMap (aA t)=(l.flatMap (aA t)).take (n*t.size):=by
 have:=iH t l 0 n
 simpa [tk] using this.symm
theorem uo (t:Ty) (n:Nat) (l:List t.T):(dr n l).flatMap (aA t)=(l.flatMap (aA t)).drop (n*t.size):=by
 have:=iH t l n l.length
 rw [za (by rw [List.length_drop,bc];omega),za (by simp)] at this
 exact this.symm
theorem Ji {t:Ty} {X:Ref} {l:List t.T} {h1 h2:H} {T1:List Nat} {pv:A} (hd:∀c,o.op≠.defer c) (hX:AD X=true) (e1:hp h1=app [.del X.id] (hp h)) (hn:h1.aQ=h.aQ) (hq:h1.aQ<16777216) (hf:(hp h1).fr h1.aQ) (e2:hp h2=app [.new h1.aQ (gw.row t l).low] (hp h1))
  (k:∀S2,Agree (.p2 (dq h1.aQ) (iE X) T1) (hp h) S2→S2.fr h1.aQ→eX P o ρ S2 ((S2.del X.id).new h1.aQ (.cells (l.flatMap (aA t)))) pv):Step P o ρ h h2 (.p2 (dq h1.aQ) (iE X) T1) pv:=
 .Uh [.del X.id,.new h1.aQ (.cells (l.flatMap (aA t)))] (by rw [e2,e1];rfl) (fun u hu=>by
  rcases List.mem_cons.1 hu with rfl | hu
  ·exact bI hX (.tail _ (.head _))
  ·rcases zF.1 hu with rfl;exact aB (o:=h1.aQ) hq (.head _)) (fun u hu=>by
  show aG (.wr [dq h1.aQ,iE X]) u.id=true
  rcases List.mem_cons.1 hu with rfl | hu
  ·exact bI hX (.tail _ (.head _))
  ·rcases zF.1 hu with rfl;exact aB (o:=h1.aQ) hq (.head _)) (fun S2 hA=>k S2 hA ((hA _ (aB hq (.head _))).2.2 (by rw [e1] at hf;exact hf))) hd
theorem Hy (hE:bW P E) {T:Nat} {x y:Operand} (ho:o.op = .call { callee:=.builtin .append,args:=#[x,y],argTypes:=#[T,T] }) (hr:LU E T (ρ x) (ρ y) h K=some r):Out P o ρ h K r:=by
 have hd:∀c,o.op≠.defer c:=by rw [ho];intro c e;cases e
 unfold LU at hr
 split at hr
 ·rename_i el he
  have hT:=ot hE he
  split at hr
  ·rename_i e ht
   have hk:=hE.dN _ _ ht
   split at hr
   ·rename_i t wN
    have nh:=hk.ts t wN
    obtain ⟨hb,hr⟩:=ah hr
    simp only [zC] at hb
    have h0:=a_ hb.1
    have hb:=Nat.le_of_ble_eq_true hb.2
    have Fh:∀{n:Nat},n≤16777216→n*e.bytes≤140737488355328∧n≤maxLen:=fun hn=>⟨Nat.le_trans (zW _ hn) hb,by unfold maxLen;omega⟩
    obtain ⟨l,T1,hr,uc⟩:=tg hr
    rw [nh] at uc
    cases sc:tZ (ρ x) with
    | true=>
     rw [sc] at hr;simp only [cond_true] at hr
     obtain ⟨h2,hr⟩:=bA hr
     have h2:l.length≤16777216:=h2
     obtain ⟨h',k1,hq,hf,hh⟩:=fO hr
     exact ⟨_,_,_,k1,.Uh _ hh (fun u hu=>by rcases zF.1 hu with rfl;exact aB (o:=h.aQ) hq (.head _)) (fun u hu=>by rcases zF.1 hu with rfl;exact aB (l:=[dq h.aQ]) (w:=false) (s:=[]) (o:=h.aQ) hq (.head _))
      (fun S2 hA=>l_ ho hT hk.ti (fun g v hv=>hv.AH sc) (uc S2 (hA.mono fun i hi=>.tail _ hi)) ((hA _ (aB hq (.head _))).2.2 hf) (Fh h2).1 (Fh h2).2) hd⟩
    | false=>
     rw [sc] at hr;simp only [cond_false] at hr
     split at hr
     ·rename_i X z hx
      obtain ⟨t',l0,hr,hX,eY⟩:=eO hr
      split at hr
      ·rename_i Uk hl
       obtain ⟨e',rfl⟩:=cr hl
       cases e'
       obtain ⟨hz,hr⟩:=ah hr
       have hz:=beq_eq hz
       obtain ⟨h2,hr⟩:=bA hr
       have h2:l0.length+l.length≤16777216:=h2
       obtain ⟨h1,hr,_,e1,hn⟩:=zf hr
       obtain ⟨h',k1,hq,hf,hh⟩:=fO hr
       refine ⟨_,_,_,k1,Ji hd hX e1 hn hq hf hh (fun S2 hA nR=>?_)⟩
       have dX:=(hA _ (bI hX (.tail _ (.head _)))).1.trans eY
       have:=qU (P:=P) (n:=l0.length) (m:=l.length) (z:=e.size) ho hT hk.ti h0 dX (fun g w v hI hv=>by
        rw [hx,hz,←nh] at hv
        rcases hv.qy hI (by rw [nh];exact h0) dX with ⟨ad,_,rfl,rfl⟩ | ⟨b,s,cap,d,bL,rfl,k2,k3,k4,k5⟩
        ·exact .inl ⟨ad,rfl,rfl⟩
        ·exact .inr ⟨b,s,cap,d,bL,rfl,k2,k3,k4,by rw [←nh];exact k5⟩) (by rw [bc,nh];exact Nat.le_refl _) (uc S2 (hA.mono fun i hi=>.tail _ (.tail _ hi))) nR (Fh h2).1 (Fh h2).2
       rw [za (by rw [bc,nh];exact Nat.le_refl _),←iU] at this
       exact this
      ·cases hr
     ·rename_i X z n hx
      obtain ⟨t',l0,hr,hX,eY⟩:=eO hr
      split at hr
      ·rename_i Uk hl
       obtain ⟨e',rfl⟩:=cr hl
       cases e'
       obtain ⟨hz,hr⟩:=ah hr
       have hz:=beq_eq hz
       split at hr
       ·obtain ⟨h2,hr⟩:=bA hr
        have h2:n+l.length≤l0.length:=h2
        obtain ⟨h1,k1,k2⟩:=mJ hX hr
        refine ⟨_,_,_,k1,⟨fun i hi=>k2.1 i (o7 (fun j hj=>by rcases zF.1 hj with rfl;exact .head _) hi),fun i hi=>k2.1 i (o7 (T:=iE X::T1) (fun j hj=>by rcases zF.1 hj with rfl;exact .head _) (sq hi)),fun S2 hA=>?_⟩⟩
        refine eX.Je (eX.bm fun g w a hI hv=>?_) hd
        have hv:=hv x (by simp [ho,Op.operands,Call.operands])
        have dX:=(hA _ (bI hX (.head _))).1.trans eY
        have QY:¬(hp h).fr X.id:=fun hf=>by
         have DI:=(hA _ (bI hX (.head _))).2.2 hf
         have:=hI.fresh _ DI
         rw [hx] at hv
         generalize a.eval x=vx at hv
         cases hv with
         | su _ _ _ _ ad bL=>rw [bL] at this;cases this
         | ts _ _ _ _ b cap s bL=>rw [bL] at this;cases this
        have e1:=k2.2 QY
        have Mr:aG (.wr (iE X::T1)) X.id=true:=bI hX (.head _)
        rw [e1,ib (fun u hu=>by rcases zF.1 hu with rfl;exact Mr) hA]
        have:=rZ (P:=P) (n:=n) (m:=l.length) (X:=X) ho hT hk.ti h0 dX (by rw [hx,hz]) (by rw [bc,nh];exact zW _ h2) (uc S2 (hA.mono fun i hi=>.tail _ hi))
        have e2:put (l0.flatMap (aA t)) (n*e.size) (l.flatMap (aA t))=(cat (tk n l0) (cat l (dr (aK n (len l)) l0))).flatMap (aA t):=by
         rw [iU,iU,um,uo,nh]
         unfold put
         rw [bc,nh,←Nat.add_mul];rfl
        rw [e2] at this
        rw [hz]
        exact this
       ·obtain ⟨h2,hr⟩:=bA hr
        have h2:n+l.length≤16777216:=h2
        obtain ⟨h1,hr,_,e1,hn⟩:=zf hr
        obtain ⟨h',k1,hq,hf,hh⟩:=fO hr
        refine ⟨_,_,_,k1,Ji hd hX e1 hn hq hf hh (fun S2 hA nR=>eX.bm fun g0 w0 a0 Rf KQ=>?_)⟩
        have dX:=(hA _ (bI hX (.tail _ (.head _)))).1.trans eY
        have hle:n≤l0.length:=by
         have hv:=KQ x (by simp [ho,Op.operands,Call.operands])
         rw [hx,hz,←nh] at hv
         have:=ss Rf (by rw [nh];exact h0) dX hv
         omega
        have:=qU (P:=P) (n:=n) (m:=l.length) (z:=e.size) ho hT hk.ti h0 dX (fun g w v hI hv=>by
         rw [hx,hz] at hv
         cases hv with
         | su _ _ _ _ ad _ hn=>exact .inl ⟨ad,rfl,by omega⟩
         | ts _ _ _ _ b cap s bL k2 k3 k4 k5 d k6=>
          rw [Nat.zero_add] at k5
          exact .inr ⟨b,s,cap,d,bL,rfl,fun hc=>by rw [k6 hc,Nat.zero_mul],k2,k3,k5⟩) (by rw [bc,nh];exact zW _ hle) (uc S2 (hA.mono fun i hi=>.tail _ (.tail _ hi))) nR (Fh h2).1 (Fh h2).2
        rw [←nh,←um,←iU] at this
        rw [←nh]
        exact this
      ·cases hr
     ·rename_i X z off n hx
      rcases pB hr with ⟨Mm,hr⟩ | ⟨_,hr⟩
      ·obtain ⟨h2,hr⟩:=bA hr
       have h2:l.length≤16777216:=h2
       have Mm:n=0:=by have:=of_decide_eq_true Mm;unfold zN at this;omega
       obtain ⟨h',k1,hq,hf,hh⟩:=fO hr
       exact ⟨_,_,_,k1,.Uh _ hh (fun u hu=>by rcases zF.1 hu with rfl;exact aB (o:=h.aQ) hq (.head _)) (fun u hu=>by rcases zF.1 hu with rfl;exact aB (l:=[dq h.aQ]) (w:=false) (s:=[]) (o:=h.aQ) hq (.head _))
        (fun S2 hA=>l_ ho hT hk.ti (fun g v hv=>by rw [hx,Mm] at hv;cases hv<;>exact ⟨_,rfl⟩) (uc S2 (hA.mono fun i hi=>.tail _ hi)) ((hA _ (aB hq (.head _))).2.2 hf) (Fh h2).1 (Fh h2).2) hd⟩
      obtain ⟨t',l0,hr,hX,eY⟩:=eO hr
      split at hr
      ·rename_i Uk hl
       obtain ⟨e',rfl⟩:=cr hl
       cases e'
       obtain ⟨hz,hr⟩:=ah hr
       have hz:=beq_eq hz
       obtain ⟨h3,hr⟩:=bA hr
       have h3:0<l.length:=h3
       obtain ⟨h2,hr⟩:=bA hr
       have h2:n+l.length≤16777216:=h2
       obtain ⟨h',k1,hq,hf,hh⟩:=fO hr
       refine ⟨_,_,_,k1,.Uh _ hh (fun u hu=>by rcases zF.1 hu with rfl;exact aB (o:=h.aQ) hq (.head _)) (fun u hu=>by rcases zF.1 hu with rfl;exact aB (l:=[dq h.aQ,iE X]) (w:=false) (s:=[]) (o:=h.aQ) hq (.head _)) (fun S2 hA=>eX.bm fun g0 w0 a0 Rf KQ=>?_) hd⟩
       have dX:=(hA _ (bI hX (.tail _ (.head _)))).1.trans eY
       have hle:off+n≤l0.length:=by
        have hv:=KQ x (by simp [ho,Op.operands,Call.operands])
        rw [hx,hz,←nh] at hv
        generalize a0.eval x=vx at hv
        cases hv with
        | B0 _ _ _ _ _ _ hn=>omega
        | tf _ _ _ _ b s bL _ hs=>
         rcases Rf.cells _ _ dX with ⟨k1,_⟩ | ⟨b',Fv,k1,_⟩
         ·rw [k1] at bL;cases bL
         rw [k1] at bL
         simp only [zI,zU] at bL
         obtain ⟨_,rfl⟩:=bL
         simp only [bc] at hs
         exact Nat.le_of_mul_le_mul_right hs (by rw [nh];exact h0)
       have:=pS (P:=P) (off:=off*e.size) (n:=n) (m:=l.length) (z:=e.size) ho hT hk.ti h0 (fun g w v hI hv=>by
        rw [hx,hz] at hv
        cases hv with
        | B0 _ _ _ _ ad _ hn=>exact .inl ⟨ad,rfl,by omega⟩
        | tf _ _ _ _ b s bL _ _ d k6=>exact .inr ⟨b,s,d,bL,rfl,k6⟩) dX (by rw [bc,nh,←Nat.add_mul];exact zW _ hle) (uc S2 (hA.mono fun i hi=>.tail _ (.tail _ hi))) h3 ((hA _ (aB hq (.head _))).2.2 hf) (Fh h2).1 (Fh h2).2
       rw [←nh,iH,←iU] at this
       rw [←nh]
       exact this
      ·cases hr
     ·cases hr
   ·cases hr
  ·cases hr
 ·cases hr
end
end
section
open Go.RowKit
theorem mQ {α β:Type} {f:α→List β} {s:Nat} (hf:∀x,(f x).length=s) (l:List α):(l.flatMap f).length=l.length*s:=by
 induction l with
 | nil=>simp
 | cons a l ih=>rw [List.flatMap_cons,zY,ih,hf,zR,Nat.succ_mul,Nat.add_comm]
theorem xC {α β:Type} {f:α→List β} {s:Nat} (hf:∀x,(f x).length=s) (l:List α) (off n:Nat):((l.flatMap f).drop (off*s)).take (n*s)=((l.drop off).take n).flatMap f:=by
 have h1:l.flatMap f=(l.take off).flatMap f++(l.drop off).flatMap f:=by rw [←List.flatMap_append,zP]
 by_cases hl:off≤l.length
 ·have h2:((l.take off).flatMap f).length=off*s:=by rw [mQ hf,List.length_take,Nat.min_eq_left hl]
  rw [h1,List.drop_append,List.drop_eq_nil_of_le (by omega),List.nil_append,h2,Nat.sub_self,List.drop_zero]
  generalize l.drop off=k
  have h3:k.flatMap f=(k.take n).flatMap f++(k.drop n).flatMap f:=by rw [←List.flatMap_append,zP]
  by_cases hk:n≤k.length
  ·have h4:((k.take n).flatMap f).length=n*s:=by rw [mQ hf,List.length_take,Nat.min_eq_left hk]
   rw [h3,List.take_append_of_le_length (by omega),za (by omega)]
  ·rw [za (by rw [mQ hf];exact zW _ (by omega)),za (l:=k) (by omega)]
 ·rw [List.drop_eq_nil_of_le (as:=l) (by omega),List.drop_eq_nil_of_le (by rw [mQ hf];exact zW _ (by omega))]
  simp
def pX (ad:Option Addr) (z lo hi c:Nat):Value:=.slice (if c=lo then ad else ad.map (·.add (lo*z))) (hi-lo) (c-lo)
theorem V.wU {g:G} {t:Ty} {f f':Bool} {l:List t.T} {lo hi:Nat} {v:Value} (hv:V g (.tl t f l) v) (h1:lo≤hi) (h2:hi≤l.length) :
  ∃ad cap,v = .slice ad l.length cap∧l.length≤cap∧(f=true→cap=l.length)∧∀c,hi≤c→c≤cap→(f'=true→c=hi)→V g (.tl t f' (tk (hi-lo) (dr lo l))) (pX ad t.size lo hi c):=by
 cases hv with
 | tl _ _ _ _ hd=>
  generalize qj:List.map (cY t) l=es at hd
  have pq:es.length=l.length:=by rw [←qj,zH]
  have E_:es.flatten=l.flatMap (cY t):=by rw [←qj,kX]
  cases hd with
  | tn=>
   have:l=[]:=zZ pq.symm
   subst this
   refine ⟨_,0,rfl,Nat.le_refl _,fun _=>rfl,fun c k1 k2 k3=>?_⟩
   have hc:c=0:=by omega
   have hl:lo=0:=by simp at h2;omega
   have hh:hi=0:=by simpa using h2
   subst hc hl hh
   exact .tl t f' _ _ (by rw [show tk (0-0) (dr 0 ([]:List t.T))=[] by simp [tk]];exact .tn _ _ _)
  | sl _ _ _ a cap vs hz hc hf hn hx hl hm E6=>
   rw [pq] at hc hf
   rw [pq]
   refine ⟨_,cap,rfl,hc,hf,fun c k1 k2 k3=>?_⟩
   unfold pX
   by_cases pV:c=lo
   ·have e1:hi-lo=0:=by omega
    rw [if_pos pV,e1,show c-lo=0 by omega]
    exact .tl t f' _ _ (by rw [show tk 0 (dr lo l)=[] by simp [tk]];exact .tn _ _ _)
   ·rw [if_neg pV]
    cases a with
    | none=>have:=hn rfl;omega
    | some p=>
     have hlen:(tk (hi-lo) (dr lo l)).length=hi-lo:=by simp [tk,dr];omega
     have Du:=xC (f:=cY t) (fun x=>dY t x) l lo (hi-lo)
     rw [E_] at hl E6
     have e2:((tk (hi-lo) (dr lo l)).map (cY t)).flatten=((l.flatMap (cY t)).drop (lo*t.size)).take ((hi-lo)*t.size):=by rw [kX,Du];rfl
     have:=VD.sl (M:=g.mem) t.size f' ((tk (hi-lo) (dr lo l)).map (cY t)) (some (p.1,p.2+lo*t.size)) (c-lo) ((vs.drop (lo*t.size)).take ((hi-lo)*t.size))
      (fun e he=>by obtain ⟨x,_,rfl⟩:=List.mem_map.1 he;exact dY t x) (by rw [zH,hlen];omega) (fun h=>by rw [zH,hlen,k3 h]) (fun h=>by cases h) (by omega)
      (by rw [e2];simp only [List.length_take,List.length_drop,hl])
      (fun q j x hq hj=>by
       cases hq
       rw [List.getElem?_take] at hj
       split at hj
       ·rw [List.getElem?_drop] at hj
        have:=hm p _ x rfl hj
        rw [←Nat.add_assoc] at this;exact this
       ·cases hj)
      (fun j d x hj Jx=>by
       rw [e2] at hj
       rw [List.getElem?_take] at hj Jx
       split at hj
       ·rename_i dD
        rw [if_pos dD] at Jx
        rw [List.getElem?_drop] at hj Jx
        exact E6 _ d x hj Jx
       ·cases hj)
     rw [zH,hlen] at this
     have e3:Option.map (fun x:Addr=>x.add (lo*t.size)) (Option.map UR (some p))=Option.map UR (some (p.1,p.2+lo*t.size)):=congrArg some (Addr.add_lit _ _ _)
     rw [e3]
     exact .tl t f' _ _ this
section
variable {P:Program} {E:Env} {o:Oper} {ρ:Operand→A} {h:H} {β:Type} {K:A→H→Fp→Option β} {r:β}
def Bq (ox:Option A) (d:Nat) (k:Nat→Option β):Option β:=match ox with
 | none=>k d
 | some (.v (.int _ m))=>gd (bn m) (k (nN m))
 | _=>none
theorem j7 {x:Option Operand} {d:Nat} {k:Nat→Option β} (hr:Bq (x.map ρ) d k=some r):∃n,k n=some r∧Bd ρ d x n:=by
 unfold Bq at hr
 split at hr
 ·rename_i hx
  cases x with
  | none=>exact ⟨d,hr,rfl⟩
  | some y=>cases hx
 ·rename_i kd m hx
  cases x with
  | none=>cases hx
  | some y=>
   obtain ⟨h1,h2⟩:=bA hr
   refine ⟨_,h2,kd,?_⟩
   rw [nf h1]
   exact Option.some.inj hx
 ·cases hr
theorem V.IC {g:G} {S:Hp} {w:World} (hI:Inv g S w) {X:Ref} {t:Ty} {l:List t.T} (h0:0<t.size) (ho:S.ob X.id=some (.cells (l.flatMap (aA t)))) {v:Value} (hv:V g (.tw X t.size) v) {lo hi:Nat} (h1:lo≤hi) (h2:hi≤l.length) :
  ∃ad cap,v = .slice ad l.length cap∧l.length≤cap∧V g (.ts X t.size lo (hi-lo)) (pX ad t.size lo hi cap)∧V g (.tf X t.size lo (hi-lo)) (pX ad t.size lo hi hi):=by
 have hlen:=bc t l
 rcases hv.qy hI h0 ho with ⟨ad,bL,rfl,rfl⟩ | ⟨b,s,cap,d,bL,rfl,k2,k3,k4,k5⟩
 ·have hh:hi=0:=by simpa using h2
  have hl:lo=0:=by omega
  subst hh hl
  exact ⟨ad,0,rfl,Nat.le_refl _,.su X t.size 0 _ ad bL rfl,.B0 X t.size 0 _ ad bL rfl⟩
 ·have hs:s.1=l.length*t.size:=by
   rcases hI.cells _ _ ho with ⟨k1,_⟩ | ⟨b',Fv,k1,_⟩
   ·rw [k1] at bL;cases bL
   rw [k1] at bL
   simp only [zI,zU] at bL
   obtain ⟨_,rfl⟩:=bL
   exact hlen
  have kB:(lo+(hi-lo))*t.size≤s.1:=by rw [hs];exact zW _ (by omega)
  refine ⟨_,cap,rfl,k3,?_,?_⟩
  ·unfold pX
   by_cases hc:cap=lo
   ·rw [if_pos hc]
    refine .ts X t.size lo (hi-lo) b (cap-lo) s bL (by omega) (by omega) kB ?_ d (fun h=>by omega) ?_
    ·rw [show lo+(cap-lo)=cap by omega];exact k5
    ·rw [show lo+(cap-lo)=cap by omega,hs];exact zW _ k3
   ·rw [if_neg hc,Option.map_some,Addr.add_lit]
    have hd:=k2 (by omega)
    refine .ts X t.size lo (hi-lo) b (cap-lo) s bL (by omega) (by omega) kB ?_ _ (fun _=>by omega) ?_
    ·rw [show lo+(cap-lo)=cap by omega];exact k5
    ·rw [show lo+(cap-lo)=cap by omega,hs];exact zW _ k3
  ·unfold pX
   by_cases hc:hi=lo
   ·rw [if_pos hc]
    exact .tf X t.size lo (hi-lo) b s bL (by omega) kB d (fun h=>by omega)
   ·rw [if_neg hc,Option.map_some,Addr.add_lit]
    have hd:=k2 (by omega)
    exact .tf X t.size lo (hi-lo) b s bL (by omega) kB _ (fun _=>by omega)
theorem V.Ox {g:G} {S:Hp} {w:World} (hI:Inv g S w) {X:Ref} {t:Ty} {l:List t.T} (h0:0<t.size) (ho:S.ob X.id=some (.cells (l.flatMap (aA t)))) {off n:Nat} {v:Value} (hv:V g (.ts X t.size off n) v) {lo hi:Nat} (h1:lo≤hi) (h2:off+hi≤l.length) :
  ∃ad cap,v = .slice ad n cap∧hi≤cap∧V g (.ts X t.size (off+lo) (hi-lo)) (pX ad t.size lo hi cap)∧V g (.tf X t.size (off+lo) (hi-lo)) (pX ad t.size lo hi hi):=by
 have hlen:=bc t l
 cases hv with
 | su _ _ _ _ ad bL hn=>
  rcases hI.cells _ _ ho with ⟨_,k2⟩ | ⟨b',Fv,k1,_⟩
  ·rw [k2] at hlen
   have hl:l.length=0:=by
    rcases Nat.eq_zero_or_pos l.length with h | h
    ·exact h
    ·have:0<l.length*t.size:=Nat.mul_pos h h0
     simp at hlen;omega
   have hh:hi=0:=by omega
   have hl:lo=0:=by omega
   have hof:off=0:=by omega
   have QV:n=0:=by omega
   subst hh hl hof QV
   exact ⟨ad,0,rfl,Nat.le_refl _,.su X t.size _ _ ad bL rfl,.B0 X t.size _ _ ad bL rfl⟩
  ·rw [k1] at bL;cases bL
 | ts _ _ _ _ b cap s bL hn hx hs hp d hd hq=>
  have KS:s.1=l.length*t.size:=by
   rcases hI.cells _ _ ho with ⟨k1,_⟩ | ⟨b',Fv,k1,_⟩
   ·rw [k1] at bL;cases bL
   rw [k1] at bL
   simp only [zI,zU] at bL
   obtain ⟨_,rfl⟩:=bL
   exact hlen
  have aer:l.length≤off+cap:=by rw [KS] at hq;exact Nat.le_of_mul_le_mul_right hq h0
  have kB:(off+lo+(hi-lo))*t.size≤s.1:=by rw [KS];exact zW _ (by omega)
  refine ⟨_,cap,rfl,by omega,?_,?_⟩
  ·unfold pX
   by_cases hc:cap=lo
   ·rw [if_pos hc]
    refine .ts X t.size (off+lo) (hi-lo) b (cap-lo) s bL (by omega) (by omega) kB ?_ d (fun h=>by omega) ?_
    ·rw [show off+lo+(cap-lo)=off+cap by omega];exact hp
    ·rw [show off+lo+(cap-lo)=off+cap by omega];exact hq
   ·rw [if_neg hc,Option.map_some,Addr.add_lit]
    have hd:=hd (by omega)
    refine .ts X t.size (off+lo) (hi-lo) b (cap-lo) s bL (by omega) (by omega) kB ?_ _ (fun _=>by rw [hd,Nat.add_mul]) ?_
    ·rw [show off+lo+(cap-lo)=off+cap by omega];exact hp
    ·rw [show off+lo+(cap-lo)=off+cap by omega];exact hq
  ·unfold pX
   by_cases hc:hi=lo
   ·rw [if_pos hc]
    exact .tf X t.size (off+lo) (hi-lo) b s bL (by omega) kB d (fun h=>by omega)
   ·rw [if_neg hc,Option.map_some,Addr.add_lit]
    have hd:=hd (by omega)
    exact .tf X t.size (off+lo) (hi-lo) b s bL (by omega) kB _ (fun _=>by rw [hd,Nat.add_mul])
def B6 (E:Env) (T:Nat) (px:A) (lo hi mx:Option A) (same:Bool) (h:H) (K:A→H→Fp→Option β):Option β:=match cz E.dN T with
 | some ⟨.slice el,_,_,_,_,_,_⟩=>match cz E.dN el with
  | some e=>match px with
   | .e0=>Bq lo 0 (fun l=>Bq hi 0 (fun n=>gd (bz l n) (gd (bz n 0) (match mx with
    | none=>K .e0 h (.rd [])
    | some _=>bif same && hi.isSome then K .e0 h (.rd []) else none))))
   | .tl t f x=>bif Nat.beq e.size t.size then Bq lo 0 (fun l=>Bq hi (len x) (fun n=>gd (bz l n) (gd (bz n (len x)) (match mx with
    | none=>K (.tl t (f && hi.isNone) (tk (aw n l) (dr l x))) h .no
    | some _=>bif same && hi.isSome then K (.tl t true (tk (aw n l) (dr l x))) h .no else none)))) else none
   | .tw X z=>jb h X (fun t x=>bif Nat.beq z e.size && Nat.beq z t.size && Nat.blt 0 z then Bq lo 0 (fun l=>Bq hi (len x) (fun n=>gd (bz l n) (gd (bz n (len x)) (match mx with
    | none=>K (.ts X z l (aw n l)) h (.rd [iE X])
    | some _=>bif same && hi.isSome then K (.tf X z l (aw n l)) h (.rd [iE X]) else none)))) else none)
   | .ts X z off m=>jb h X (fun t x=>bif Nat.beq z e.size && Nat.beq z t.size && Nat.blt 0 z then Bq lo 0 (fun l=>Bq hi m (fun n=>gd (bz l n) (gd (bz (aK off n) (len x)) (match mx with
    | none=>K (.ts X z (aK off l) (aw n l)) h (.rd [iE X])
    | some _=>bif same && hi.isSome then K (.tf X z (aK off l) (aw n l)) h (.rd [iE X]) else none)))) else none)
   | _=>none
  | none=>none
 | some ⟨.array n el,_,_,_,_,_,_⟩=>match cz E.dN el with
  | some e=>bif lo.isNone && hi.isNone && mx.isNone && Nat.ble n 16777216 then (match px with
   | .tp X π=>K (.aa X π n e.size) h .no
   | .ptr q off=>match h.t.get q with
    | some (.cells cs)=>bif Nat.blt q 16777216 && Nat.ble (off+n*e.size) cs.length then K (.sl q off e.size n) h (.rd [dq q]) else none
    | _=>none
   | _=>none) else none
  | none=>none
 | _=>none
theorem isNone_map {x:Option Operand} (h:(x.map ρ).isNone=true):x=none:=by cases x with | none=>rfl | some y=>cases h
theorem isSome_map {x:Option Operand} (h:(x.map ρ).isSome=true):∃y,x=some y:=by cases x with | none=>cases h | some y=>exact ⟨y,rfl⟩
theorem qe {S:Hp} {T E':TypeId} {x:Operand} {lo hi mx:Option Operand} {z l n d:Nat} {pv pw:A} (ho:o.op = .slice T x lo hi mx) (hT:P.underlying T=some (.slice E')) (hE:eL P E' z) (ue:Bd ρ 0 lo l) (uf:Bd ρ d hi n) (h1:l≤n)
  (hr:∀g w v,Inv g S w→V g (ρ x) v→∃ad cap,v = .slice ad d cap∧n≤cap∧(mx=none→V g pv (pX ad z l n cap))∧(mx=hi→V g pw (pX ad z l n n))):(mx=none→eX P o ρ S S pv)∧(mx=hi→hi≠none→eX P o ρ S S pw):=
 ⟨fun hm=>by
  subst hm
  exact Ar ho hT hE ue h1 (fun g w v hI hv=>let ⟨ad,cap,k1,k2,k3,_⟩:=hr g w v hI hv;⟨ad,d,cap,k1,uf,k2,k3 rfl⟩),
 fun hm hn=>by
  subst hm
  cases Jy:mx with
  | none=>exact absurd Jy hn
  | some y=>
   subst Jy
   exact qR (hi:=y) (mx:=y) ho hT hE ue uf uf h1 (Nat.le_refl _) (fun g w v hI hv=>let ⟨ad,cap,k1,k2,_,k4⟩:=hr g w v hI hv;⟨ad,d,cap,k1,k2,k4 rfl⟩)⟩
theorem tm (hE:bW P E) {T:Nat} {x:Operand} {lo hi mx:Option Operand} {same:Bool} (ho:o.op = .slice T x lo hi mx) (hs:same=true→mx=hi) (hr:B6 E T (ρ x) (lo.map ρ) (hi.map ρ) (mx.map ρ) same h K=some r):Out P o ρ h K r:=by
 have hd:∀c,o.op≠.defer c:=by rw [ho];intro c e;cases e
 unfold B6 at hr
 split at hr
 ·rename_i el _ _ _ _ _ _ ht
  have hT:=(hE.dN _ _ ht).u
  split at hr
  ·rename_i e he
   have hz:=(hE.dN _ _ he).ti.size
   have fin:∀{T':List Nat} {pv pw:A} {Sx:Hp→Prop},(∀S2,Agree (.rd T') (hp h) S2→(mx=none→eX P o ρ S2 S2 pv)∧(mx=hi→hi≠none→eX P o ρ S2 S2 pw))→(match mx.map ρ with | none=>K pv h (.rd T') | some _=>bif same && (hi.map ρ).isSome then K pw h (.rd T') else none)=some r→Out P o ρ h K r:=fun {T' pv pw Sx} k hr=>by
    cases hm:mx with
    | none=>
     rw [hm] at hr
     exact .read _ hr (fun S2 hA=>(k S2 hA).1 hm) hd
    | some y=>
     rw [hm] at hr
     obtain ⟨h1,hr⟩:=ah hr
     simp only [zC] at h1
     obtain ⟨y',xo⟩:=isSome_map h1.2
     exact .read _ hr (fun S2 hA=>(k S2 hA).2 (hs h1.1) (by rw [xo];intro h;cases h)) hd
   split at hr
   ·rename_i hx
    obtain ⟨l,hr,ue⟩:=j7 hr
    obtain ⟨n,hr,uf⟩:=j7 hr
    obtain ⟨h1,hr⟩:=bA hr
    obtain ⟨h2,hr⟩:=bA hr
    have h1:l≤n:=h1
    have h2:n≤0:=h2
    have hn:n=0:=by omega
    have hl:l=0:=by omega
    subst hn hl
    exact fin (T':=[]) (Sx:=fun _=>True) (fun S2 _=>qe (pw:=.e0) ho hT hz ue uf h1 (fun g w v hI hv=>by
     rw [hx] at hv
     cases hv with
     | e0 ad=>exact ⟨ad,0,rfl,Nat.le_refl _,fun _=>.e0 _,fun _=>.e0 _⟩)) hr
   ·rename_i t f x' hx
    obtain ⟨hq,hr⟩:=ah hr
    have hq:=beq_eq hq
    obtain ⟨l,hr,ue⟩:=j7 hr
    obtain ⟨n,hr,uf⟩:=j7 hr
    obtain ⟨h1,hr⟩:=bA hr
    obtain ⟨h2,hr⟩:=bA hr
    have h1:l≤n:=h1
    have h2:n≤x'.length:=h2
    refine fin (T':=[]) (Sx:=fun _=>True) (fun S2 _=>qe ho hT hz ue uf h1 (fun g w v hI hv=>?_)) hr
    rw [hx] at hv
    obtain ⟨ad,cap,k1,k2,k3,_⟩:=hv.wU (f':=f && (hi.map ρ).isNone) h1 h2
    refine ⟨ad,cap,k1,by omega,fun hm=>?_,fun _=>?_⟩
    ·obtain ⟨ad',Zw,j1,j2,j3,j4⟩:=hv.wU (f':=f && (hi.map ρ).isNone) h1 h2
     rw [k1] at j1;cases j1
     rw [hq]
     refine j4 cap (by omega) (Nat.le_refl _) (fun hf=>?_)
     simp only [zC] at hf
     have hh:=isNone_map hf.2
     subst hh
     have:n=len x':=uf
     rw [k3 hf.1,this];rfl
    ·obtain ⟨ad',Zw,j1,j2,j3,j4⟩:=hv.wU (f':=true) h1 h2
     rw [k1] at j1;cases j1
     rw [hq]
     exact j4 n (Nat.le_refl _) (by omega) (fun _=>rfl)
   ·rename_i X z hx
    obtain ⟨t,x',hr,hX,eY⟩:=eO hr
    obtain ⟨hq,hr⟩:=ah hr
    simp only [zC] at hq
    have Uy:=beq_eq hq.1.1
    have GN:=beq_eq hq.1.2
    have h0:=a_ hq.2
    obtain ⟨l,hr,ue⟩:=j7 hr
    obtain ⟨n,hr,uf⟩:=j7 hr
    obtain ⟨h1,hr⟩:=bA hr
    obtain ⟨h2,hr⟩:=bA hr
    have h1:l≤n:=h1
    have h2:n≤x'.length:=h2
    refine fin (T':=[iE X]) (Sx:=fun _=>True) (fun S2 hA=>qe ho hT hz ue uf h1 (fun g w v hI hv=>?_)) hr
    have dX:=(hA _ (bI hX (.head _))).1.trans eY
    rw [hx,GN] at hv
    obtain ⟨ad,cap,k1,k2,k3,k4⟩:=hv.IC hI (by omega) dX h1 h2
    rw [←GN] at k3 k4
    rw [←Uy]
    exact ⟨ad,cap,k1,by omega,fun _=>k3,fun _=>k4⟩
   ·rename_i X z off m hx
    obtain ⟨t,x',hr,hX,eY⟩:=eO hr
    obtain ⟨hq,hr⟩:=ah hr
    simp only [zC] at hq
    have Uy:=beq_eq hq.1.1
    have GN:=beq_eq hq.1.2
    have h0:=a_ hq.2
    obtain ⟨l,hr,ue⟩:=j7 hr
    obtain ⟨n,hr,uf⟩:=j7 hr
    obtain ⟨h1,hr⟩:=bA hr
    obtain ⟨h2,hr⟩:=bA hr
    have h1:l≤n:=h1
    have h2:off+n≤x'.length:=h2
    refine fin (T':=[iE X]) (Sx:=fun _=>True) (fun S2 hA=>qe ho hT hz ue uf h1 (fun g w v hI hv=>?_)) hr
    have dX:=(hA _ (bI hX (.head _))).1.trans eY
    rw [hx,GN] at hv
    obtain ⟨ad,cap,k1,k2,k3,k4⟩:=hv.Ox hI (by omega) dX h1 h2
    rw [←GN] at k3 k4
    rw [←Uy]
    exact ⟨ad,cap,k1,k2,fun _=>k3,fun _=>k4⟩
   ·cases hr
  ·cases hr
 ·rename_i n el _ _ _ _ _ _ ht
  have hT:=(hE.dN _ _ ht).u
  split at hr
  ·rename_i e he
   have hz:=(hE.dN _ _ he).ti.size
   obtain ⟨h1,jA⟩:=ah hr
   clear hr
   simp only [zC] at h1
   have e1:=isNone_map h1.1.1.1
   have e2:=isNone_map h1.1.1.2
   have e3:=isNone_map h1.1.2
   have hn:=Nat.le_of_ble_eq_true h1.2
   clear h1
   subst e1 e2 e3
   split at jA
   ·rename_i X π hx
    exact .pure jA (fun S2=>m9 ho hT ⟨_,hz⟩ (fun g w v hI hv=>by
     rw [hx] at hv
     cases hv with
     | tp _ _ b s bL hk=>exact ⟨b,_,rfl,.aa X π n e.size b n s bL hk (Nat.le_refl _) (by unfold maxLen;omega)⟩)) hd
   ·rename_i q off hx
    split at jA
    ·rename_i cs hg
     obtain ⟨h2,jA⟩:=ah jA
     simp only [zC] at h2
     have hq:=a_ h2.1
     have h3:=Nat.le_of_ble_eq_true h2.2
     have eY:(hp h).ob q=some (.cells cs):=by rw [jY hq];unfold fG;rw [hg];rfl
     exact .read _ jA (fun S2 hA=>m9 ho hT ⟨_,hz⟩ (fun g w v hI hv=>by
      rw [hx] at hv
      cases hv with
      | ptr _ _ b s bL=>
       have hs:s.1=cs.length:=by
        rcases hI.cells _ _ ((hA q (aB hq (.head _))).1.trans eY) with ⟨k1,_⟩ | ⟨b',Fv,k1,_⟩
        ·rw [k1] at bL;cases bL
        rw [k1] at bL
        simp only [zI,zU] at bL
        obtain ⟨_,rfl⟩:=bL
        rfl
       exact ⟨b,off,rfl,.sl q off e.size n b n s bL (Nat.le_refl _) (by unfold maxLen;omega) (by rw [hs];exact h3)⟩)) hd
    ·cases jA
   ·cases jA
  ·cases hr
 ·cases hr
end
end
section
open Go.RowKit
section
variable {P:Program} {E:Env} {o:Oper} {ρ:Operand→A} {h:H} {β:Type} {K:A→H→Fp→Option β} {r:β}
theorem Step.put {h1:H} {X:Ref} {x:Ob} {T1:List Nat} {pv:A} (hd:∀c,o.op≠.defer c) (hX:AD X=true) (k2:wH h h1 X x) (Ai:∀(g:G) (S:Hp) (w:World) (a:Act),Inv g S w→(∀x∈o.op.operands,V g (ρ x) (a.eval x))→g.bm X.id≠none)
  (k:∀S2,Agree (.pt (iE X) T1) (hp h) S2→eX P o ρ S2 (S2.set X.id x) pv):Step P o ρ h h1 (.pt (iE X) T1) pv where
 out:=fun i hi=>k2.1 i (by
  have hi:(false || (iE X::T1).any (Nat.beq (res i)))=false:=hi
  rw [List.any_cons,Bool.or_eq_false_iff,Bool.or_eq_false_iff] at hi
  show (false || [iE X].any (Nat.beq (res i)))=false
  rw [List.any_cons,hi.2.1];rfl)
 rd:=fun i hi=>k2.1 i (by simpa [wt,aG,Fp.pt,Fp.wr] using hi)
 ok:=fun S2 hA=>by
  refine eX.Je (eX.bm fun g w a hI hv=>?_) hd
  have Mr:aG (.pt (iE X) T1) X.id=true:=bI hX (.head _)
  have QY:¬(hp h).fr X.id:=fun hf=>Ai g S2 w a hI hv (hI.fresh _ ((hA _ Mr).2.2 hf))
  rw [k2.2 QY,ib (fun u hu=>by rcases zF.1 hu with rfl;exact Mr) hA]
  exact k S2 hA
theorem V.atw {g:G} {X:Ref} {z:Nat} {v:Value} (hv:V g (.tw X z) v):g.bm X.id≠none:=by cases hv<;>simp_all
theorem V.ats {g:G} {X:Ref} {z off n:Nat} {v:Value} (hv:V g (.ts X z off n) v):g.bm X.id≠none:=by cases hv<;>simp_all
def Eo (E:Env) (T:Nat) (px py:A) (h:H) (K:A→H→Fp→Option β):Option β:=match xl E T with
 | some el=>match cz E.dN el with
  | some e=>match e.t,px with
   | some t,.tw X z=>bif Nat.blt 0 e.size then wX h t py (fun l T1=>jb h X (fun t' l0=>match fK (.aJ t') (.aJ t) l0 with
    | some l0=>bif Nat.beq z e.size then gd (bp 0 (len (α:=t.T) l0)) (gd (bz (len l) (len (α:=t.T) l0)) (qO h X t (cat l (dr (α:=t.T) (len l) l0)) (fun h1=>K (.v (.int .i64 (zN (len l)))) h1 (.pt (iE X) T1)))) else none
    | none=>none)) else none
   | _,_=>none
  | none=>none
 | none=>none
theorem Em (hE:bW P E) {T T':Nat} {x y:Operand} (ho:o.op = .call { callee:=.builtin .copy,args:=#[x,y],argTypes:=#[T,T'] }) (hr:Eo E T (ρ x) (ρ y) h K=some r):Out P o ρ h K r:=by
 have hd:∀c,o.op≠.defer c:=by rw [ho];intro c e;cases e
 unfold Eo at hr
 split at hr
 ·rename_i el he
  split at hr
  ·rename_i e ht
   have hk:=hE.dN _ _ ht
   split at hr
   ·rename_i t X z wN hx
    have nh:=hk.ts t wN
    obtain ⟨h0,hr⟩:=ah hr
    have h0:=a_ h0
    obtain ⟨l,T1,hr,uc⟩:=tg hr
    obtain ⟨t',l0,hr,hX,eY⟩:=eO hr
    split at hr
    ·rename_i Uk hl
     obtain ⟨e',rfl⟩:=cr hl
     cases e'
     obtain ⟨hz,hr⟩:=ah hr
     have hz:=beq_eq hz
     obtain ⟨h1,hr⟩:=bA hr
     have h1:0<l0.length:=h1
     obtain ⟨h2,hr⟩:=bA hr
     have h2:l.length≤l0.length:=h2
     obtain ⟨h',k1,k2⟩:=mJ hX hr
     refine ⟨_,_,_,k1,.put hd hX k2 (fun g S w a hI hv=>?_) (fun S2 hA=>?_)⟩
     ·have hv:=hv x (by simp [ho,Op.operands,Call.operands])
      rw [hx] at hv
      exact hv.atw
     ·have dX:=(hA _ (bI hX (.head _))).1.trans eY
      have:=CL (P:=P) (ρ:=ρ) (n:=l0.length) (m:=l.length) (off:=0) (z:=e.size) ho (ot hE he) hk.ti.size (fun g w v hI hv=>by
       rw [hx,hz,←nh] at hv
       rcases hv.qy hI (by rw [nh];exact h0) dX with ⟨ad,_,rfl,rfl⟩ | ⟨b,s,cap,d,bL,rfl,k2,k3,k4,k5⟩
       ·simp at h1
       ·exact ⟨b,s,cap,d,bL,rfl,fun _=>k2 (by omega)⟩) dX (by rw [bc,nh];omega) (by have:=uc S2 (hA.mono fun i hi=>.tail _ hi);rwa [nh] at this) h2
      have e2:put (l0.flatMap (aA t)) 0 (l.flatMap (aA t))=(cat l (dr (len l) l0)).flatMap (aA t):=by
       rw [iU,uo]
       unfold put
       rw [bc,List.take_zero,List.nil_append,Nat.zero_add];rfl
      rw [e2] at this
      exact this
    ·cases hr
   ·cases hr
  ·cases hr
 ·cases hr
def LJ (E:Env) (T:Nat) (px:A) (h:H) (K:A→H→Fp→Option β):Option β:=match xl E T with
 | some el=>match cz E.dN el with
  | some e=>match e.t,px with
   | some t,.ts X z off n=>bif Nat.blt 0 e.size then jb h X (fun t' l0=>match fK (.aJ t') (.aJ t) l0 with
    | some l0=>bif Nat.beq z e.size then gd (bp 0 n) (qO h X t (cat (tk (α:=t.T) off l0) (cat (rep n t.cM) (dr (α:=t.T) (aK off n) l0))) (fun h1=>K .cI h1 (.wr [iE X]))) else none
    | none=>none) else none
   | _,_=>none
  | none=>none
 | none=>none
theorem Ho (hE:bW P E) {T:Nat} {x:Operand} (ho:o.op = .call { callee:=.builtin .clear,args:=#[x],argTypes:=#[T] }) (hr:LJ E T (ρ x) h K=some r):Out P o ρ h K r:=by
 have hd:∀c,o.op≠.defer c:=by rw [ho];intro c e;cases e
 unfold LJ at hr
 split at hr
 ·rename_i el he
  split at hr
  ·rename_i e ht
   have hk:=hE.dN _ _ ht
   split at hr
   ·rename_i t X z off n wN hx
    have nh:=hk.ts t wN
    obtain ⟨h0,hr⟩:=ah hr
    have h0:=a_ h0
    obtain ⟨t',l0,hr,hX,eY⟩:=eO hr
    split at hr
    ·rename_i Uk hl
     obtain ⟨e',rfl⟩:=cr hl
     cases e'
     obtain ⟨hz,hr⟩:=ah hr
     have hz:=beq_eq hz
     obtain ⟨h1,hr⟩:=bA hr
     have h1:0<n:=h1
     obtain ⟨h',k1,k2⟩:=mJ hX hr
     refine ⟨_,_,_,k1,.put hd hX k2 (fun g S w a hI hv=>?_) (fun S2 hA=>eX.bm fun g0 w0 a0 Rf KQ=>?_)⟩
     ·have hv:=hv x (by simp [ho,Op.operands,Call.operands])
      rw [hx] at hv
      exact hv.ats
     ·have dX:=(hA _ (bI hX (.head _))).1.trans eY
      have hle:off+n≤l0.length:=by
       have hv:=KQ x (by simp [ho,Op.operands,Call.operands])
       rw [hx,hz,←nh] at hv
       exact ss Rf (by rw [nh];exact h0) dX hv
      have:=Ax (P:=P) (ρ:=ρ) (n:=n) (off:=off*e.size) (z:=e.size) ho (ot hE he) hk.ti h0 (hk.tz t wN) (fun g w v hI hv=>by
       rw [hx,hz] at hv
       cases hv with
       | su _ _ _ _ _ _ hn=>omega
       | ts _ _ _ _ b cap s bL hn _ _ _ d mZ=>exact ⟨b,s,cap,d,bL,rfl,fun _=>mZ (by omega)⟩) h1 dX (by rw [bc,nh,←Nat.add_mul];exact zW _ hle)
      have e2:put (l0.flatMap (aA t)) (off*e.size) (pa n (aA t t.cM))=(cat (tk off l0) (cat (rep n t.cM) (dr (aK off n) l0))).flatMap (aA t):=by
       rw [iU,iU,um,uo,vd,nh]
       unfold put
       rw [jR,bK,nh,←Nat.add_mul];rfl
      rw [e2] at this
      exact this
    ·cases hr
   ·cases hr
  ·cases hr
 ·cases hr
def Mc (mx:Bool) (px py:A) (h:H) (K:A→H→Fp→Option β):Option β:=match px,py with
 | .v (.int k m),.v (.int k' n)=>if k=k' then K (.v (.int k (bif mx then imax m n else ly m n))) h .no else none
 | _,_=>none
theorem Gv {Ts:Array TypeId} {x y:Operand} (ho:o.op = .call { callee:=.builtin .max,args:=#[x,y],argTypes:=Ts }) (hr:Mc true (ρ x) (ρ y) h K=some r):Out P o ρ h K r:=by
 unfold Mc at hr
 split at hr
 ·rename_i k m k' n hx hy
  split at hr
  ·rename_i hk;subst hk
   exact .pure hr (fun S2=>Gb ho hx hy) (by rw [ho];intro c e;cases e)
  ·cases hr
 ·cases hr
theorem Gu {Ts:Array TypeId} {x y:Operand} (ho:o.op = .call { callee:=.builtin .min,args:=#[x,y],argTypes:=Ts }) (hr:Mc false (ρ x) (ρ y) h K=some r):Out P o ρ h K r:=by
 unfold Mc at hr
 split at hr
 ·rename_i k m k' n hx hy
  split at hr
  ·rename_i hk;subst hk
   exact .pure hr (fun S2=>Ga ho hx hy) (by rw [ho];intro c e;cases e)
  ·cases hr
 ·cases hr
def QC (f:FuncId) (fi ca:List A) (h:H) (K:A→H→Fp→Option β):Option β:=K (.fn f fi ca) h .no
theorem Gx {f:FuncId} {fi ca:Array Operand} (ho:o.op = .makeFunc (.func f) fi ca) (hr:QC f (fi.toList.map ρ) (ca.toList.map ρ) h K=some r):Out P o ρ h K r:=
 .pure hr (fun S2=>tK ho) (by rw [ho];intro c e;cases e)
end
end
section
open Go.RowKit
section
variable {P:Program} {E:Env} {o:Oper} {ρ:Operand→A} {S:Hp}
def AL (es:List (A×A)) (n:Nat) (v:A):List (A×A):=es.modify n fun e=>(e.1,v)
theorem CK (hE:bW P E) {T K T2:Nat} {X:Ref} {x y z:Operand} {e:cU} {es:List (A×A)} {vz:A} {n:Nat} {Ug:A} (ho:o.op = .mapUpdate T x y z) (hT:P.underlying T=some (.map K T2)) (he:cz E.dN K=some e) (ht:lM E e.d=true) {b:Bool} (hs:iT E K e.d (ρ y) (ρ y)=some b)
  (hx:ρ x = .mp X) (hm:S.ob X.id=some (.cN (.map es))) (Mf:∀g v,V g (ρ z) v→V g vz v) (hr:kY (iT E K e.d (ρ y)) es 0=some (some (n,Ug)))
  (W0:∀g v q v',es[n]?=some q→V g (ρ y) v→V g q.1 v'→v'=v∧Instr.sameBits 10000 v v=true):eX P o ρ S (S.set X.id (.cN (.map (AL es n vz)))) .cI:=by
 intro g w a next Q hI hv K'
 have e1:=hx▸hv x (by simp [ho,Op.operands])
 have e2:=hv y (by simp [ho,Op.operands])
 have e3:=hv z (by simp [ho,Op.operands])
 obtain ⟨BI,s,jg,clock,h1,h2,h3,h4⟩:=e1.tS hI hm
 have hc:=mS hE w false he ht hs e2
 rcases h4.find (w:=w) hE he e2 hr with ⟨hh,_⟩ | ⟨n',p,x',hh,nQ,_,hn,hf⟩
 ·cases hh
 cases hh
 obtain ⟨q,hq⟩:∃q,es[n]?=some q:=⟨_,zD hn⟩
 obtain ⟨k1,k2⟩:=W0 g _ q _ hq e2 (h4.2 n x' q nQ hq).1
 have DJ:rJ g (jg.modify n fun e=>{ e with key:=a.eval y,val:=a.eval z }) (AL es n vz):=by
  refine ⟨by simp [AL,h4.1],fun m c r hy hz=>?_⟩
  unfold AL at hz
  rw [List.getElem?_modify] at hz
  rw [Array.getElem?_modify] at hy
  by_cases hmn:n=m
  ·subst hmn
   simp only [if_true,nQ,hq,Option.map_some,Option.map_eq_map,zI] at hy hz
   subst hy hz
   exact ⟨by rw [←k1];exact (h4.2 n x' q nQ hq).1,Mf _ _ e3⟩
  ·simp only [if_neg hmn,Option.map_eq_map,Option.map_id'] at hy hz
   exact h4.2 m c r hy hz
 obtain ⟨q1,q2⟩:=hI.tq (mv:=clock) hm h2 h3 DJ
 have yS:(Instr.keyThatStays (((jg[n]?).map (·.key)).getD (a.eval y)) (a.eval y)).run P w = .ok (a.eval y) w:=by
  rw [nQ]
  simp only [Option.map_some,Option.getD_some,k1]
  simp [Instr.keyThatStays,k2]
 have eQ:(Instr.mapUpdate T (.map (some BI)) (a.eval y) (a.eval z)).run P w = .ok () { w with heap:=w.heap.setIfInBounds BI (.map (jg.modify n fun e=>{ e with key:=a.eval y,val:=a.eval z }) clock) }:=by
  simp only [Instr.mapUpdate,Sem.run_bind,run_underlying hT,Result.andThen_ok,MapKept.run_getObj_map h3,hc,hf,yS,MapKept.run_setObj_map _ h3]
 unfold Oper.wp
 simp only [execOp,ho,h1,Sem.run_bind,eQ,Result.andThen_ok,Sem.run_pure]
 exact K' _ g _ (.cI _) q1 q2
end
def sR {β:Type} (f:A→Option Bool):List (A×A)→Nat→(Option (Nat×A)→Option β)→Option β
 | [],_,K=>K none
 | (k,v)::r,i,K=>match f k with
  | some b=>br b (K (some (i,v))) (sR f r (i+1) K)
  | none=>none
theorem oH {β:Type} {f:A→Option Bool} {r:β}:∀(es:List (A×A)) (i:Nat) (K:Option (Nat×A)→Option β),sR f es i K=some r→∃x,K x=some r∧kY f es i=some x
 | [],i,K,h=>⟨none,h,rfl⟩
 | (k,v)::es,i,K,h=>by
  unfold sR at h
  split at h
  ·rename_i b hb
   rcases pB h with ⟨rfl,h1⟩ | ⟨rfl,h1⟩
   ·exact ⟨_,h1,by unfold kY;rw [hb]⟩
   ·obtain ⟨x,k1,k2⟩:=oH es (i+1) K h1
    exact ⟨x,k1,by unfold kY;rw [hb];exact k2⟩
  ·cases h
def sT:(t:Ty)→t.T→t.T→Bool
 | .int _,x,y=>af x y
 | .pair a b,x,y=>sT a x.1 y.1 && sT b x.2 y.2
 | _,_,_=>false
def E3 {κ α:Type} (p:κ→Bool):List (κ×α)→Nat→Option (Nat×α)
 | [],_=>none
 | (k,v)::r,i=>bif p k then some (i,v) else E3 p r (i+1)
def KB {κ α:Type} (l:List (κ×α)) (n:Nat) (v:α):List (κ×α):=l.modify n fun e=>(e.1,v)
def KE {κ α:Type} (l:List (κ×α)) (n:Nat):List (κ×α):=l.eraseIdx n
def mc (E:Env) (T:Nat) (k:IntKind):Bool:=match cz E.dN T with
 | some ⟨.int k',1,_,_,_,_,_⟩=>if k'=k then true else false
 | _=>false
def ck (E:Env):List Field→Nat→Ty→Bool
 | [fd],i,.int k=>Nat.beq fd.offset i && mc E fd.type k
 | fd::fs,i,.pair (.int k) t=>Nat.beq fd.offset i && mc E fd.type k && ck E fs (i+1) t
 | _,_,_=>false
def C8 (E:Env) (K:Nat) (e:cU) (ka:Bool) (t:Ty):Bool:=match e.d with
 | .int k=>!ka && (match t with
  | .int k'=>if k'=k then true else false
  | _=>false)
 | .struct fs=>ka && E.eqs.any (Nat.beq K) && ck E fs.toList 0 t
 | _=>false
theorem ph {E:Env} {T:Nat} {k:IntKind} (h:mc E T k=true):∃e,cz E.dN T=some e∧e.d = .int k∧e.size=1:=by
 unfold mc at h
 split at h
 ·rename_i k' _ _ _ _ _ ht
  split at h
  ·rename_i hk;subst hk;exact ⟨_,ht,rfl,rfl⟩
  ·cases h
 ·cases h
theorem y8 {E:Env} {T:Nat} {k:IntKind} {m n:Int} (h:mc E T k=true) (f:Nat):uR E (f+1) T [.v (.int k m)] [.v (.int k n)]=some (af m n):=by
 obtain ⟨e,h1,h2,_⟩:=ph h
 unfold uR
 rw [h1]
 simp only [h2,if_true]
theorem yE {E:Env} (f:Nat):∀(fs:List Field) (i:Nat) (t:Ty),ck E fs i t=true→∀(p q:List A) (x y:t.T),p.length=i→q.length=i→Hg E (uR E (f+1)) fs (p++aA t x) (q++aA t y)=some (sT t x y)
 | [],_,_,h=>by simp [ck] at h
 | [fd],i,.int k,h=>fun p q x y hp hq=>by
  simp only [ck,zC] at h
  have h1:=beq_eq h.1
  obtain ⟨e,e1,e2,e3⟩:=ph h.2
  unfold Hg
  rw [e1]
  simp only [e3,h1]
  rw [←hp,List.drop_left,hp,←hq,List.drop_left]
  have:=y8 (m:=x) (n:=y) h.2 f
  simp only [aA,List.take_succ_cons,List.take_zero,this,Hg]
  simp [sT,mz]
 | fd::fs,i,.pair (.int k) t,h=>fun p q x y hp hq=>by
  have h:(Nat.beq fd.offset i && mc E fd.type k && ck E fs (i+1) t)=true:=by
   cases fs<;>exact h
  simp only [zC] at h
  have h1:=beq_eq h.1.1
  obtain ⟨e,e1,e2,e3⟩:=ph h.1.2
  unfold Hg
  rw [e1]
  simp only [e3,h1]
  have ih:=yE f fs (i+1) t h.2 (p++[A.v (.int k x.1)]) (q++[A.v (.int k y.1)]) x.2 y.2 (by simp [hp]) (by simp [hq])
  have ex:∀(p:List A) (x:(Ty.pair (.int k) t).T),p++aA (.pair (.int k) t) x=p++[A.v (.int k x.1)]++aA t x.2:=fun p x=>by
   show p++([A.v (.int k x.1)]++aA t x.2)=_
   rw [List.append_assoc]
  rw [ex,ex,ih]
  have Xc:((p++[A.v (.int k x.1)]++aA t x.2).drop i).take 1=[A.v (.int k x.1)]:=by rw [←hp,List.append_assoc,List.drop_left];rfl
  have hd2:((q++[A.v (.int k y.1)]++aA t y.2).drop i).take 1=[A.v (.int k y.1)]:=by rw [←hq,List.append_assoc,List.drop_left];rfl
  rw [Xc,hd2]
  exact congrArg (fun z:Option Bool=>match z,some (sT t x.2 y.2) with
   | some a,some b=>some (mz a b)
   | _,_=>none) (y8 (m:=x.1) (n:=y.1) h.1.2 f)
 | [_],_,.bool,h=>by simp [ck] at h
 | _::_::_,_,.bool,h=>by simp [ck] at h
 | _::_::_,_,.int _,h=>by simp [ck] at h
 | _::_,_,.unit,h=>by simp [ck] at h
 | _::_,_,.pair .bool _,h=>by simp [ck] at h
 | _::_,_,.pair .unit _,h=>by simp [ck] at h
 | _::_,_,.pair (.pair _ _) _,h=>by simp [ck] at h
 | _::_,_,.pair (.arr _ _) _,h=>by simp [ck] at h
 | _::_,_,.pair (.aJ _) _,h=>by simp [ck] at h
 | _::_,_,.pair (.ptr _) _,h=>by simp [ck] at h
 | _::_,_,.pair (.dT _) _,h=>by simp [ck] at h
 | _::_,_,.pair (.jQ _ _) _,h=>by simp [ck] at h
 | _::_,_,.pair (.oS _ _) _,h=>by simp [ck] at h
 | _::_,_,.pair (.mp _) _,h=>by simp [ck] at h
 | _::_,_,.arr _ _,h=>by simp [ck] at h
 | _::_,_,.aJ _,h=>by simp [ck] at h
 | _::_,_,.ptr _,h=>by simp [ck] at h
 | _::_,_,.dT _,h=>by simp [ck] at h
 | _::_,_,.jQ _ _,h=>by simp [ck] at h
 | _::_,_,.oS _ _,h=>by simp [ck] at h
 | _::_,_,.mp _,h=>by simp [ck] at h
theorem tU {E:Env} {K:Nat} {e:cU} {ka:Bool} {t:Ty} (he:cz E.dN K=some e) (h:C8 E K e ka t=true) (x y:t.T):iT E K e.d (bY ka t x) (bY ka t y)=some (sT t x y):=by
 unfold C8 at h
 split at h
 ·rename_i k hd
  cases ka with
  | true=>simp at h
  | false=>
   simp only [Bool.not_false,Bool.true_and] at h
   split at h
   ·split at h
    ·rename_i k' hk
     subst hk
     unfold iT bY
     simp only [hd,cond_false,aA,if_true]
     rfl
    ·cases h
   ·cases h
 ·rename_i fs hd
  simp only [zC] at h
  obtain ⟨⟨rfl,hq⟩,hs⟩:=h
  have h1:=yE 0 fs.toList 0 t hs [] [] x y rfl rfl
  simp only [List.nil_append] at h1
  unfold iT bY
  simp only [hd,cond_true,ij,Bool.and_self,A.cells]
  show uR E 2 K (aA t x) (aA t y)=some (sT t x y)
  unfold uR
  rw [he]
  simp only [hd,hq,cond_true]
  exact h1
 ·cases h
theorem km {E:Env} {K:Nat} {e:cU} {ka va:Bool} {t tv:Ty} (he:cz E.dN K=some e) (h:C8 E K e ka t=true) (x:t.T):∀(es:List (t.T×tv.T)) (i:Nat),
  kY (iT E K e.d (bY ka t x)) (es.map fun e=>(bY ka t e.1,bY va tv e.2)) i=some ((E3 (sT t x) es i).map fun p=>(p.1,bY va tv p.2))
 | [],i=>rfl
 | (k,v)::es,i=>by
  rw [List.map_cons]
  unfold kY E3
  simp only [tU he h x k]
  cases sT t x k with
  | true=>rfl
  | false=>exact km he h x es (i+1)
theorem ua {a b:Int} (h:af a b=true):a=b:=by unfold af at h;exact of_decide_eq_true h
theorem sJ {E:Env}:∀(fs:List Field) (i:Nat) (t:Ty),ck E fs i t=true→∀x y:t.T,sT t x y=true→x=y
 | [],_,_,h=>by simp [ck] at h
 | [_],_,.int _,_=>fun _ _ e=>ua e
 | fd::fs,i,.pair (.int k) t,h=>fun x y e=>by
  have h:(Nat.beq fd.offset i && mc E fd.type k && ck E fs (i+1) t)=true:=by
   cases fs<;>exact h
  simp only [zC] at h
  have e:(af x.1 y.1 && sT t x.2 y.2)=true:=e
  simp only [zC] at e
  exact Prod.ext (ua e.1) (sJ fs (i+1) t h.2 _ _ e.2)
 | [_],_,.bool,h=>by simp [ck] at h
 | _::_::_,_,.bool,h=>by simp [ck] at h
 | _::_::_,_,.int _,h=>by simp [ck] at h
 | _::_,_,.unit,h=>by simp [ck] at h
 | _::_,_,.pair .bool _,h=>by simp [ck] at h
 | _::_,_,.pair .unit _,h=>by simp [ck] at h
 | _::_,_,.pair (.pair _ _) _,h=>by simp [ck] at h
 | _::_,_,.pair (.arr _ _) _,h=>by simp [ck] at h
 | _::_,_,.pair (.aJ _) _,h=>by simp [ck] at h
 | _::_,_,.pair (.ptr _) _,h=>by simp [ck] at h
 | _::_,_,.pair (.dT _) _,h=>by simp [ck] at h
 | _::_,_,.pair (.jQ _ _) _,h=>by simp [ck] at h
 | _::_,_,.pair (.oS _ _) _,h=>by simp [ck] at h
 | _::_,_,.pair (.mp _) _,h=>by simp [ck] at h
 | _::_,_,.arr _ _,h=>by simp [ck] at h
 | _::_,_,.aJ _,h=>by simp [ck] at h
 | _::_,_,.ptr _,h=>by simp [ck] at h
 | _::_,_,.dT _,h=>by simp [ck] at h
 | _::_,_,.jQ _ _,h=>by simp [ck] at h
 | _::_,_,.oS _ _,h=>by simp [ck] at h
 | _::_,_,.mp _,h=>by simp [ck] at h
theorem w7 (n:Nat) (k:IntKind) (m:Int):Instr.sameBits n (.int k m) (.int k m)=true:=by cases n<;>simp [Instr.sameBits]
theorem sK {E:Env}:∀(fs:List Field) (i:Nat) (t:Ty),ck E fs i t=true→∀(x:t.T) (g:G) (vs:List Value),Vs g (aA t x) vs→(∀g' Fu,Vs g' (aA t x) Fu→Fu=vs)∧∀n,((vs.zip vs).all fun (a,b)=>Instr.sameBits n a b)=true
 | [],_,_,h=>by simp [ck] at h
 | [_],_,.int k,_=>fun x g vs hv=>by
  obtain ⟨v,rfl,h1,_⟩:=Vs.mX (show Vs g [.v (.int k x)] vs from hv)
  cases h1
  refine ⟨fun g' Fu wM=>?_,fun n=>?_⟩
  ·obtain ⟨v',rfl,Xr,_⟩:=Vs.mX (show Vs g' [.v (.int k x)] Fu from wM)
   cases Xr;rfl
  ·exact (Bool.and_true _).trans (w7 n k x)
 | fd::fs,i,.pair (.int k) t,h=>fun x g vs hv=>by
  have h:(Nat.beq fd.offset i && mc E fd.type k && ck E fs (i+1) t)=true:=by
   cases fs<;>exact h
  simp only [zC] at h
  obtain ⟨v1,v2⟩:=Vs.split (show Vs g (aA (.int k) x.1++aA t x.2) vs from hv)
  obtain ⟨r1,r2⟩:=sK fs (i+1) t h.2 x.2 g _ v2
  obtain ⟨v,e1,h1,_⟩:=Vs.mX (show Vs g [.v (.int k x.1)] _ from v1)
  cases h1
  have BB:vs=Value.int k x.1::vs.drop (aA (.int k) x.1).length:=by
   have:=zP (aA (.int k) x.1).length vs
   rw [e1] at this
   exact this.symm
  refine ⟨fun g' Fu wM=>?_,fun n=>?_⟩
  ·obtain ⟨v1',v2'⟩:=Vs.split (show Vs g' (aA (.int k) x.1++aA t x.2) Fu from wM)
   obtain ⟨v',e1',Xr,_⟩:=Vs.mX (show Vs g' [.v (.int k x.1)] _ from v1')
   cases Xr
   have Wt:Fu=Value.int k x.1::Fu.drop (aA (.int k) x.1).length:=by
    have:=zP (aA (.int k) x.1).length Fu
    rw [e1'] at this
    exact this.symm
   rw [Wt,BB,r1 _ _ v2']
  ·rw [BB,List.zip_cons_cons,List.all_cons,r2 n]
   exact (Bool.and_true _).trans (w7 n k x.1)
 | [_],_,.bool,h=>by simp [ck] at h
 | _::_::_,_,.bool,h=>by simp [ck] at h
 | _::_::_,_,.int _,h=>by simp [ck] at h
 | _::_,_,.unit,h=>by simp [ck] at h
 | _::_,_,.pair .bool _,h=>by simp [ck] at h
 | _::_,_,.pair .unit _,h=>by simp [ck] at h
 | _::_,_,.pair (.pair _ _) _,h=>by simp [ck] at h
 | _::_,_,.pair (.arr _ _) _,h=>by simp [ck] at h
 | _::_,_,.pair (.aJ _) _,h=>by simp [ck] at h
 | _::_,_,.pair (.ptr _) _,h=>by simp [ck] at h
 | _::_,_,.pair (.dT _) _,h=>by simp [ck] at h
 | _::_,_,.pair (.jQ _ _) _,h=>by simp [ck] at h
 | _::_,_,.pair (.oS _ _) _,h=>by simp [ck] at h
 | _::_,_,.pair (.mp _) _,h=>by simp [ck] at h
 | _::_,_,.arr _ _,h=>by simp [ck] at h
 | _::_,_,.aJ _,h=>by simp [ck] at h
 | _::_,_,.ptr _,h=>by simp [ck] at h
 | _::_,_,.dT _,h=>by simp [ck] at h
 | _::_,_,.jQ _ _,h=>by simp [ck] at h
 | _::_,_,.oS _ _,h=>by simp [ck] at h
 | _::_,_,.mp _,h=>by simp [ck] at h
theorem C7 {E:Env} {K:Nat} {e:cU} {ka:Bool} {t:Ty} (h:C8 E K e ka t=true) {x y:t.T} (hxy:sT t x y=true) {g:G} {v v':Value} (h1:V g (bY ka t x) v) (h2:V g (bY ka t y) v'):v'=v∧Instr.sameBits 10000 v v=true:=by
 unfold C8 at h
 split at h
 ·rename_i k hd
  cases ka with
  | true=>simp at h
  | false=>
   simp only [Bool.not_false,Bool.true_and] at h
   split at h
   ·split at h
    ·have:=ua hxy
     subst this
     cases h1;cases h2
     exact ⟨rfl,w7 _ _ _⟩
    ·cases h
   ·cases h
 ·rename_i fs hd
  simp only [zC] at h
  obtain ⟨⟨rfl,hq⟩,hs⟩:=h
  have:=sJ _ _ _ hs _ _ hxy
  subst this
  have c1:=h1.cells rfl
  have c2:=h2.cells rfl
  obtain ⟨us,rfl⟩:=h1.wD rfl
  obtain ⟨us',rfl⟩:=h2.wD rfl
  obtain ⟨r1,r2⟩:=sK _ _ _ hs x g _ c1
  have e:=r1 _ _ c2
  have e:us'=us:=Array.ext' e
  subst e
  refine ⟨rfl,?_⟩
  have:=r2 9999
  simp only [Value.cells] at this
  rw [show (10000:Nat)=9999+1 from rfl,Instr.sameBits]
  simp only [this,Bool.and_true,beq_self_eq_true]
 ·cases h
end
section
variable {α β σ ρ:Type}
theorem xV {x:Option α} {f:α→Option β} {a:α} (h:x=some a):bd x f=f a:=by rw [h];rfl
theorem Jd {x:Option α} {n:Option β} {s:α→Option β} {a:α} (h:x=some a):opt x n s=s a:=by rw [h];rfl
theorem Jc {x:Option α} {n:Option β} {s:α→Option β} (h:x=none):opt x n s=n:=by rw [h];rfl
theorem Zx {b:Bool} {x y:Option α} (h:b=true):br b x y=x:=by rw [h];rfl
theorem Zy {b:Bool} {x y:Option α} (h:b=false):br b x y=y:=by rw [h];rfl
theorem vZ {p:Prop} {inst:Decidable p} {x:Option α} (h:p):@gd α p inst x=x:=if_pos h
theorem dI {a b:Int} {x y:Option α} (h:a<b):br (aY a b) x y=x:=by unfold aY;rw [decide_eq_true h];rfl
theorem dk {a b:Int} {x y:Option α} (h:¬a<b):br (aY a b) x y=y:=by unfold aY;rw [decide_eq_false h];rfl
theorem dJ {a b:Int} {x y:Option α} (h:a≤b):br (dn a b) x y=x:=by unfold dn;rw [decide_eq_true h];rfl
theorem dK {a b:Int} {x y:Option α} (h:¬a≤b):br (dn a b) x y=y:=by unfold dn;rw [decide_eq_false h];rfl
theorem bj {a b:Int} {x y:Option α} (h:a=b):br (af a b) x y=x:=by unfold af;rw [decide_eq_true h];rfl
theorem bl {a b:Int} {x y:Option α} (h:¬a=b):br (af a b) x y=y:=by unfold af;rw [decide_eq_false h];rfl
theorem gK {a:Int} {x:Option α}:gd (bn a) x=br (dn 0 a) x none:=by unfold dn;by_cases h:0≤a<;>simp [gd,bn,h,br]
theorem gG {a b:Nat} {x:Option α}:gd (bp a b) x=br (aY a b) x none:=by unfold aY;by_cases h:a<b<;>simp [gd,bp,h,br]
theorem gH {a b:Nat} {x:Option α}:gd (bz a b) x=br (dn a b) x none:=by unfold dn;by_cases h:a≤b<;>simp [gd,bz,h,br]
theorem gI {a b:Nat} {x:Option α}:gd (neq a b) x=br (af a b) x none:=by
 unfold af
 by_cases h:a=b
 ·simp [gd,neq,h,br]
 ·have h2:¬(a:Int)=b:=by omega
  simp [gd,neq,h,h2,br]
theorem gL {a b:Int} {x:Option α}:gd (GJ a b) x=br (af a b) x none:=by unfold af;by_cases h:a=b<;>simp [gd,GJ,h,br]
theorem gJ {a:Int} {x:Option α}:gd (E4 a) x=br (af a 0) none x:=by unfold af;by_cases h:a=0<;>simp [gd,E4,h,br]
theorem dH {b:Bool} {x y:Option α}:br (ax b) x y=br b y x:=by cases b<;>rfl
theorem LP {a b:Bool} {x y:Option α}:br (mz a b) x y=br a (br b x y) y:=by cases a<;>cases b<;>rfl
theorem wrap_i64 (n:Int):IntKind.i64.wrap n=(n+9223372036854775808)%18446744073709551616-9223372036854775808:=by
 simp [IntKind.wrap,IntKind.bits,IntKind.signed]
 split<;>omega
theorem wrap_u64 (n:Int):IntKind.u64.wrap n=n%18446744073709551616:=by simp [IntKind.wrap,IntKind.bits,IntKind.signed]
theorem aU {a b:Int} (h : -9223372036854775808≤a+b∧a+b≤9223372036854775807):ae .i64 a b=a+b:=by unfold ae;rw [wrap_i64];omega
theorem bS {a b:Int} (h : -9223372036854775808≤a-b∧a-b≤9223372036854775807):aE .i64 a b=a-b:=by unfold aE;rw [wrap_i64];omega
theorem dc {a b:Int} (h : -9223372036854775808≤a*b∧a*b≤9223372036854775807):dG .i64 a b=a*b:=by unfold dG;rw [wrap_i64];omega
theorem fS {a:Int} (h : -9223372036854775808≤a∧a≤9223372036854775807):cy .i64 a=a:=by unfold cy;rw [wrap_i64];omega
theorem gy {a:Int} (h:0≤a∧a≤18446744073709551615):cy .u64 a=a:=by unfold cy;rw [wrap_u64];omega
theorem cO {a b:Int} (h:0≤a):bO a b=a%b:=Int.tmod_eq_emod_of_nonneg h
theorem J2 {a b:Int} (h:0≤a):a.tdiv b=a / b:=Int.tdiv_eq_ediv_of_nonneg h
theorem dZ {a b:Int} (h:0≤a∧a≤9223372036854775807∧0<b):AQ .i64 a b=a / b:=by
 unfold AQ
 rw [J2 h.1,wrap_i64]
 have h1:0≤a / b:=Int.ediv_nonneg h.1 (by omega)
 have h2:a / b≤a:=Int.ediv_le_self b h.1
 omega
theorem je (n:Nat):nN (n:Int)=n:=zE n
theorem fL (n:Nat):zN n=(n:Int):=rfl
theorem dg (a:Int):nN a=a.toNat:=rfl
theorem bF (a:Int):bn a=(0≤a):=rfl
theorem bZ (a b:Nat):bp a b=(a<b):=rfl
theorem dt (a b:Nat):bz a b=(a≤b):=rfl
theorem fy {d:α} {l:List α} {i:Nat} (h:i<l.length):nth d l i=l[i]:=by unfold nth;rw [zA,zD h];rfl
theorem bR {d x:α} {l:List α} {i:Nat} (h:l[i]?=some x):nth d l i=x:=by unfold nth;rw [zA,h];rfl
theorem Gj {d x:α} {l:List α} {i j:Nat}:nth d (aS l i x) j=if i=j∧j<l.length then x else nth d l j:=by
 unfold nth aS
 rw [zA,zA,List.getElem?_set]
 by_cases h:i=j
 ·subst h
  by_cases h1:i<l.length
  ·simp [h1]
  ·simp [h1]
 ·simp [h]
theorem Ce {l:List (Option (List α))} {j:Nat} {r:List α}:aT l j=some r↔l[j]?=some (some r):=by
 unfold aT
 rw [zA]
 cases h:l[j]? with
 | none=>simp
 | some x=>simp
theorem o9 {l:List (Option (List α))} {j:Nat} {r:List α} (h:aT l j=some r):j<l.length:=(zB.1 (Ce.1 h)).1
theorem yj {l:List (Option (List α))} {i j:Nat} {x:Option (List α)} (h:i<l.length):aT (aS l i x) j=if i=j then x else aT l j:=by
 unfold aT aS
 rw [zA,zA,List.getElem?_set]
 by_cases e:i=j
 ·subst e;simp [h]
 ·simp [e]
theorem cl {l:List (Option (List α))} {j:Nat} {r:List α} {x:Option (List α)} (h:aT l j=some r):aT (aS l j x) j=x:=by rw [yj (o9 h),if_pos rfl]
theorem vC {d x:α} {l:List α} {i:Nat} (h:i<l.length):nth d (aS l i x) i=x:=by rw [Gj,if_pos ⟨rfl,h⟩]
theorem yk {l:List (Option (List α))} {j:Nat} {x:Option (List α)}:aT (cat l [x]) j=if j=l.length then x else aT l j:=by
 unfold aT cat
 rw [zA,zA]
 by_cases e:j=l.length
 ·subst e;simp
 ·rw [if_neg e]
  by_cases h1:j<l.length
  ·rw [zK h1]
  ·rw [zb (by simp;omega),zb (by omega)]
theorem Gk {d x:α} {l:List α} {j:Nat}:nth d (cat l [x]) j=if j=l.length then x else nth d l j:=by
 unfold nth cat
 rw [zA,zA]
 by_cases e:j=l.length
 ·subst e;simp
 ·rw [if_neg e]
  by_cases h1:j<l.length
  ·rw [zK h1]
  ·rw [zb (by simp;omega),zb (by omega)]
theorem gz {l:List (Option (List α))} {x:Option (List α)}:aT (cat l [x]) l.length=x:=by rw [yk,if_pos rfl]
theorem vD {d x:α} {l:List α}:nth d (cat l [x]) l.length=x:=by rw [Gk,if_pos rfl]
theorem nu {n:Nat} {l:List α}:(tk n l).length=min n l.length:=List.length_take
theorem nJ {n:Nat} {l:List α}:(dr n l).length=l.length-n:=List.length_drop
theorem lj {n:Nat} {x:α}:(rep n x).length=n:=List.length_replicate
theorem iP {d:α} {l:List α} {n:Nat} {x:α}:(aS l n x).length=l.length:=zM
theorem xi {l k:List α}:(cat l k).length=l.length+k.length:=zY
theorem aI (l:List α):len l=l.length:=rfl
theorem Ef {S R B:List α} {i m m' k:Nat} (hi:i<S.length) (hk:k=S.length-(i+1)) (hm:m=i+k) (KY:m'=i+k):tk m (cat (tk m' (cat (tk i S) (cat (tk k (dr (i+1) S)) R))) B)=S.eraseIdx i:=by
 have e1:tk k (dr (i+1) S)=S.drop (i+1):=za (by simp [dr];omega)
 rw [e1]
 unfold tk cat
 have hl:(S.take i++S.drop (i+1)).length=i+k:=by simp;omega
 have h2:List.take m' (List.take i S++(List.drop (i+1) S++R))=List.take i S++List.drop (i+1) S:=by
  rw [←List.append_assoc];exact List.take_left' (hl.trans KY.symm)
 rw [h2]
 exact (List.take_left' (hl.trans hm.symm)).trans (List.eraseIdx_eq_take_drop_succ _ _).symm
def BJ (f:(σ→Option α)→σ→Option α) (s:σ) (x:Option α) (k:Nat):Prop:=∀n,k<n→iter f n s=x
theorem BJ.stop {f:(σ→Option α)→σ→Option α} {s:σ} {x:Option α} (k:Nat) (h:∀g,f g s=x):BJ f s x k:=fun n hn=>by
 cases n with
 | zero=>omega
 | succ n=>exact h _
theorem BJ.step {f:(σ→Option α)→σ→Option α} {s s':σ} {x:Option α} {k:Nat} (h:BJ f s' x k) (e:∀g:σ→Option α,f g s=g s'):BJ f s x (k+1):=fun n hn=>by
 cases n with
 | zero=>omega
 | succ n=>exact (e _).trans (h n (by omega))
theorem BJ.loop {f:(σ→Option α)→σ→Option α} {s:σ} {x:Option α} {k:Nat} (h:BJ f s x k) (hk:k<lQ):Go.Bm.loop f s=x:=by rw [qf];exact h lQ hk
theorem Jk {f:(σ→Option α)→σ→Option α} {s:σ}:Go.Bm.loop f s=f (fun s=>f (fun s=>f (iter f 9223372036854775805) s) s) s:=by rw [qf];rfl
theorem lu {f:(σ→Option α)→σ→Option α} (mk:Nat→σ) (res:Nat→Option α) (N:Nat) (hN:N<lQ) (he:∀g,f g (mk N)=res N) (h:∀k,k<N→(∀g,f g (mk k)=res k)∨(res k=res (k+1)∧∀g,f g (mk k)=g (mk (k+1)))):Go.Bm.loop f (mk 0)=res 0:=by
  have key:∀m k:Nat,k+m=N→BJ f (mk k) (res k) m:=by
    intro m
    induction m with
    | zero=>
              intro k hk;obtain rfl:k=N:=by omega
              exact .stop 0 he
    | succ m ih=>
      intro k hk
      rcases h k (by omega) with h1 | ⟨h1,h2⟩
      · exact .stop _ h1
      · rw [h1];exact .step (ih (k+1) (by omega)) (fun g=>h2 g)
  exact (key N 0 (by omega)).loop hN
end
theorem bits_mask (a:Int) (j:Nat) (hj:j<63):bits .and .i64 a (2^j-1)=a%2^j:=by
 have h1:(BitVec.ofInt 64 (2^j-1)).toNat=2^j-1:=by
  rw [BitVec.toNat_ofInt]
  have h2:(2:Int)^j<2^64:=by
   have:(2:Nat)^j<2^64:=Nat.pow_lt_pow_right (by omega) (by omega)
   exact_mod_cast this
  have h3:(0:Int)<2^j:=by
   have:0<(2:Nat)^j:=Nat.pow_pos (by omega)
   exact_mod_cast this
  rw [Int.emod_eq_of_lt (by omega) (by simpa using (by omega:(2:Int)^j-1<2^64))]
  have:((2:Int)^j-1)=(((2:Nat)^j-1:Nat):Int):=by
   have:0<(2:Nat)^j:=Nat.pow_pos (by omega)
   rw [Int.natCast_sub (by omega)];simp
  rw [this];simp
 have h4:((BitVec.ofInt 64 a).toNat &&& (2^j-1))=(BitVec.ofInt 64 a).toNat%2^j:=Nat.and_two_pow_sub_one_eq_mod _ _
 have h5:(((BitVec.ofInt 64 a).toNat%2^j:Nat):Int)=a%2^j:=by
  rw [BitVec.toNat_ofInt]
  have hd:(2:Int)^j ∣ 2^64:=⟨2^(64-j),by rw [←Int.pow_add];congr 1;omega⟩
  rw [Int.natCast_emod,Int.toNat_of_nonneg (Int.emod_nonneg _ (by decide))]
  have:=Int.emod_emod_of_dvd a hd
  simpa using this
 have h6:0≤a%2^j:=Int.emod_nonneg _ (by
  have:0<(2:Nat)^j:=Nat.pow_pos (by omega)
  have:(0:Int)<2^j:=by exact_mod_cast this
  omega)
 have h7:a%2^j<9223372036854775808:=by
  have hp:(0:Int)<2^j:=by
   have:0<(2:Nat)^j:=Nat.pow_pos (by omega)
   exact_mod_cast this
  have h8:=Int.emod_lt_of_pos a hp
  have h9:(2:Int)^j≤2^63:=by
   have:(2:Nat)^j≤2^63:=Nat.pow_le_pow_right (by omega) (by omega)
   exact_mod_cast this
  omega
 have Xq:(BitVec.ofInt 64 a &&& BitVec.ofInt 64 (2^j-1)).toNat=(BitVec.ofInt 64 a).toNat%2^j:=by rw [BitVec.toNat_and,h1,h4]
 show IntKind.i64.wrap ((BitVec.ofInt 64 a &&& BitVec.ofInt 64 (2^j-1)).toNat:Int)=_
 rw [Xq,h5]
 exact (by rw [wrap_i64];omega)
theorem sH {n:Nat} {a:Int} (h0:0≤a) (h1:a<2^n):(BitVec.ofInt n a).toNat=a.toNat:=by
 rw [BitVec.toNat_ofInt,Int.emod_eq_of_lt h0 (by exact_mod_cast h1)]
theorem wA {a b:Int} (ha:0≤a∧a<9223372036854775808) (hb:0≤b∧b<9223372036854775808):bits .or .i64 a b=((a.toNat ||| b.toNat:Nat):Int):=by
 show IntKind.i64.wrap ((BitVec.ofInt 64 a ||| BitVec.ofInt 64 b).toNat:Int)=_
 rw [BitVec.toNat_or,sH ha.1 (by omega),sH hb.1 (by omega)]
 have:a.toNat ||| b.toNat<2^63:=Nat.or_lt_two_pow (by omega) (by omega)
 exact (by rw [wrap_i64];omega)
theorem kr {a m:Int} (j:Nat) (hj:j<63) (hm:m=2^j-1):bits .and .i64 a m=a%2^j:=by rw [hm,bits_mask a j hj]
theorem yu {a b:Int} (ha:0≤a∧a<9223372036854775808) (hb:0≤b∧b<9223372036854775808):bO (bits .or .i64 a b) 8=0↔a%8=0∧b%8=0:=by
 rw [wA ha hb,cO (by omega)]
 obtain ⟨x,rfl⟩:=Int.eq_ofNat_of_zero_le ha.1
 obtain ⟨y,rfl⟩:=Int.eq_ofNat_of_zero_le hb.1
 have h:(x ||| y)%8=(x%8) ||| (y%8):=by
  have:=Nat.or_mod_two_pow (a:=x) (b:=y) (n:=3)
  simpa using this
 have h2:(x ||| y)%8=0↔x%8=0∧y%8=0:=by rw [h];exact Nat.or_eq_zero_iff
 simp only [zE]
 omega
theorem B_ : ∀ k : Fin 64, 3 ≤ k.val → (7#64)[k.val]'k.isLt = false := by decide
theorem HA {a:Int} (ha:0≤a∧a<9223372036854775808):bits .andNot .i64 a 7=a-a%8:=by
 obtain ⟨x,rfl⟩:=Int.eq_ofNat_of_zero_le ha.1
 have h1:(BitVec.ofInt 64 (x:Int) &&& ~~~ BitVec.ofInt 64 7).toNat=x-x%8:=by
  have hx:x<2^64:=by omega
  have e:BitVec.ofInt 64 (x:Int) &&& ~~~ BitVec.ofInt 64 7=(BitVec.ofNat 64 x >>> 3) <<< 3:=by
   rw [BitVec.ofInt_natCast]
   ext i hi
   simp only [BitVec.getElem_and,BitVec.getElem_not,BitVec.getElem_shiftLeft]
   by_cases h3:i<3
   ·have:i=0∨i=1∨i=2:=by omega
    rcases this with rfl | rfl | rfl<;>simp<;>decide
   ·have h7:(BitVec.ofInt 64 7)[i]=false:=by
     have:BitVec.ofInt 64 7=7#64:=rfl
     rw [this]
     exact B_ ⟨i,hi⟩ (by simpa using h3)
    rw [h7]
    simp [h3]
    congr 1
    omega
  rw [e]
  simp only [BitVec.toNat_shiftLeft,BitVec.toNat_ushiftRight,BitVec.toNat_ofNat,Nat.mod_eq_of_lt hx,Nat.shiftRight_eq_div_pow,Nat.shiftLeft_eq]
  omega
 show IntKind.i64.wrap ((BitVec.ofInt 64 (x:Int) &&& ~~~ BitVec.ofInt 64 7).toNat:Int)=_
 rw [h1,wrap_i64];omega
end Go.Bm
namespace Go.oX
open Go.Bm
abbrev uL:=Int×Int×Int×Int
abbrev Xt:=Int×Int
abbrev pG:=Int×Bool
abbrev oQ:=Int×Int×Int
abbrev Hnd:=Int×Int×Int
abbrev mE:=Int×Int×Int×Int
abbrev lY:=Int×Int×Int×Int×Int×Int×Int
def within (a lo hi:Int):Bool:=decide (lo≤a) && decide (a≤hi)
theorem ku {a lo hi:Int}:within a lo hi=true↔lo≤a∧a≤hi:=by simp [within]
def eM (p:mE):Bool:=within p.1 1 8 && (within p.2.1 1 4 && (within p.2.2.1 0 2048 && (within p.2.2.2 0 8192 && (decide (p.2.2.1%8=0) && decide (p.2.2.2%8=0)))))
theorem fa {p:mE}:eM p=true↔(1≤p.1∧p.1≤8)∧(1≤p.2.1∧p.2.1≤4)∧(0≤p.2.2.1∧p.2.2.1≤2048)∧(0≤p.2.2.2∧p.2.2.2≤8192)∧p.2.2.1%8=0∧p.2.2.2%8=0:=by
 simp [eM,ku]
def HM (n:Int):Int:=n+7-(n+7)%8
def fF (c:uL):Bool:=within c.2.2.2 0 16777215 && (if c.1=0∨c.1=1 then decide (c.2.1=0) && decide (c.2.2.1 = -1) else if c.1=2 then within c.2.1 1 7 && within c.2.2.1 (-1) 7 else if c.1=3 then decide (c.2.1=0) && within c.2.2.1 (-1) 7 else false)
def xR:uL:=(0,0,0,0)
def rA (c:uL) (fr:Int):uL×Int:=
 if fF c=false∨within fr 0 7=false then (xR,1)
 else if c.1=0 then (xR,11)
 else if c.1=3 then (xR,10)
 else if c.1=1 then ((2,c.2.1+1,fr,c.2.2.2),0)
 else if c.2.2.1≠fr then (xR,15)
 else if c.2.1=7 then (xR,16)
 else ((c.1,c.2.1+1,c.2.2.1,c.2.2.2),0)
def lO (c:uL) (s:Int):Int:=if fF c=false then 1 else if c.1≠s then 11 else 0
def rz (c:uL):uL×Int:=if lO c 2≠0 then (xR,lO c 2) else if c.2.1=1 then ((3,0,c.2.2.1,c.2.2.2),0) else ((c.1,c.2.1-1,c.2.2.1,c.2.2.2),0)
def sI (e:Int):Int:=(e+1)%16777216
def uv (c:uL):uL×Int:=if lO c 3≠0 then (xR,lO c 3) else ((1,0,-1,sI c.2.2.2),0)
def LS (l:List pG):Int:=match l.getLast? with
 | some e=>e.1
 | none=>0
def kZ:List pG→Int→Option Nat
 | [],_=>none
 | e::l,s=>if e=(s,true) then some 0 else (kZ l s).map (· + 1)
def reach (l:List pG) (s:Int):Bool:=decide (s=0) || (kZ l s).isSome
def parent (l:List pG) (s:Int):Int:=match kZ l s with
 | some i=>LS (l.take i)
 | none=>-1
def uG (l:List pG) (s:Int):Nat→Int→Bool
 | 0,_=>false
 | n+1,b=>if b=s then true else uG l s n (parent l b)
def JQ (l:List pG) (s b:Int):Bool:=decide (s=0) || uG l s 9 b
def mO (jP bytes:Int):Int×Int:=if within jP 0 6=false∨within bytes 0 512=false then (0,1) else (2+jP+(bytes+7) / 8,0)
end Go.oX
namespace Go.Bm
section
variable {α β σ ρ:Type}
def Ok (x:Option α) (P:α→Prop):Prop:=∃a,x=some a∧P a
theorem Ok.some {a:α} {P:α→Prop} (h:P a):Ok (some a) P:=⟨a,rfl,h⟩
theorem Ok.mono {x:Option α} {P Q:α→Prop} (h:Ok x P) (k:∀a,P a→Q a):Ok x Q:=let ⟨a,e,h⟩:=h;⟨a,e,k a h⟩
theorem Ok.bd {x:Option α} {f:α→Option β} {Q:α→Prop} {P:β→Prop} (h:Ok x Q) (k:∀a,Q a→Ok (f a) P):Ok (Go.Bm.bd x f) P:=by
 obtain ⟨a,rfl,h⟩:=h
 exact k a h
theorem Ok.gP {x:Option α} {f:α→Option β} {a:α} {P:β→Prop} (h:x=Option.some a) (k:Ok (f a) P):Ok (Go.Bm.bd x f) P:=by rw [xV h];exact k
theorem Ok.br {c:Bool} {x y:Option α} {P:α→Prop} (h1:c=true→Ok x P) (h2:c=false→Ok y P):Ok (Go.Bm.br c x y) P:=by
 cases c with
 | true=>exact h1 rfl
 | false=>exact h2 rfl
theorem Ok.gd {p:Prop} {inst:Decidable p} {x:Option α} {P:α→Prop} (h:p) (k:Ok x P):Ok (@Go.Bm.gd α p inst x) P:=by rw [vZ h];exact k
theorem Ok.gC {o:Option α} {a:α} {n:Option β} {s:α→Option β} {P:β→Prop} (h:o=Option.some a) (k:Ok (s a) P):Ok (opt o n s) P:=by rw [Jd h];exact k
theorem Ok.Ao {o:Option α} {n:Option β} {s:α→Option β} {P:β→Prop} (h:o=none) (k:Ok n P):Ok (opt o n s) P:=by rw [Jc h];exact k
theorem Ok.opt {o:Option α} {n:Option β} {s:α→Option β} {P:β→Prop} (h:o=none→Ok n P) (k:∀a,o=Option.some a→Ok (s a) P):Ok (Go.Bm.opt o n s) P:=by
 cases o with
 | none=>exact h rfl
 | some a=>exact k a rfl
theorem Ok.jn {f:(σ→Option ρ)→Option ρ} {K:σ→Option ρ} {P:ρ→Prop} (h:Ok (f K) P):Ok (Go.Bm.jn f K) P:=by rw [gE];exact h
theorem Ok.kS {f:(σ→Option ρ)→Option ρ} {K:σ→Option ρ} {P:ρ→Prop} (Q:σ→Prop) (hK:∀s,Q s→Ok (K s) P) (h:∀k,(∀s,Q s→Ok (k s) P)→Ok (f k) P):Ok (Go.Bm.jn f K) P:=by rw [gE];exact h K hK
theorem Ok.loop {f:(σ→Option α)→σ→Option α} {P:α→Prop} (I:Nat→σ→Prop) (h:∀m s g,I m s→(∀m' s',m' < m→I m' s'→Ok (g s') P)→Ok (f g s) P) {N:Nat} {s0:σ} (hN:N<lQ) (h0:I N s0):Ok (Go.Bm.loop f s0) P:=by
 have key:∀m n s,m<n→I m s→Ok (iter f n s) P:=by
  intro m
  induction m using Nat.strongRecOn with
  | _ m ih=>
   intro n s hn hs
   cases n with
   | zero=>omega
   | succ n=>exact h m s (iter f n) hs (fun m' s' hm AT=>ih m' hm n s' (by omega) AT)
 rw [qf]
 exact key N lQ s0 hN h0
theorem eh {a b:Int}:aY a b=true↔a<b:=decide_eq_true_iff
theorem Jl {a b:Int}:dn a b=true↔a≤b:=decide_eq_true_iff
theorem bo {a b:Int}:af a b=true↔a=b:=decide_eq_true_iff
theorem gD {a b:Int}:aY a b=false↔¬a<b:=decide_eq_false_iff_not
theorem qW {a b:Int}:dn a b=false↔¬a≤b:=decide_eq_false_iff_not
theorem bh {a b:Int}:af a b=false↔¬a=b:=decide_eq_false_iff_not
theorem kh {a:Bool}:ax a=true↔a=false:=by cases a<;>simp [ax]
theorem eI {a:Bool}:ax a=false↔a=true:=by cases a<;>simp [ax]
end
section
open Go.RowKit
section
variable {P:Program} {E:Env} {o:Oper} {ρ:Operand→A} {h:H} {β:Type} {K:A→H→Fp→Option β} {r:β}
def xm:A→Bool
 | .agg _=>true
 | _=>false
theorem V.sc1 {g:G} {p:A} {v:Value} {cs:List A} (hv:V g p v) (ha:xm p=false) (hc:p.cells=some cs):v.oneCell'=true:=by
 cases hv with
 | v x=>
  unfold A.cells at hc
  cases hx:v.oneCell' with
  | true=>rfl
  | false=>simp only [hx,cond_false] at hc;cases hc
 | agg=>cases ha
 | jt=>cases hc
 | un=>cases hc
 | cI=>cases hc
 | op r o v h0 h1=>exact V.AB (.op r o v h0 h1)
 | os r z o v h0 h1=>exact V.AB (.os r z o v h0 h1)
 | om r o v h0 h1=>exact V.AB (.om r o v h0 h1)
 | tl t f l v hd=>exact hd.one
 | _=>rfl
def kP (a:Bool) (t:Ty) (p:A):Option t.T:=bif a then (match p with
 | .agg cs=>oT t cs
 | _=>none) else bif xm p then none else (match p.cells with
 | some cs=>bif Nat.beq t.size 1 then oT t cs else none
 | none=>none)
theorem jV {a:Bool} {t:Ty} {p:A} {x:t.T} (hx:kP a t p=some x) {g:G} {v:Value} (hv:V g p v):V g (bY a t x) v:=by
 unfold kP at hx
 unfold bY
 cases a with
 | true=>
  simp only [cond_true] at hx ⊢
  split at hx
  ·rename_i cs
   obtain ⟨us,rfl⟩:=hv.wD rfl
   exact Vs.agg ((i_ (g:=g) t cs x hx).2 _ (hv.cells rfl))
  ·cases hx
 | false=>
  simp only [cond_false] at hx ⊢
  cases ha:xm p with
  | true=>rw [ha] at hx;cases hx
  | false=>
   rw [ha] at hx;simp only [cond_false] at hx
   split at hx
   ·rename_i cs hc
    obtain ⟨h1,hx⟩:=ah hx
    have h1:=beq_eq h1
    have Mh:=(i_ (g:=g) t cs x hx).2 _ (hv.cells hc)
    rw [sG (hv.sc1 ha hc)] at Mh
    have hl:(aA t x).length=1:=by rw [bK];exact h1
    match he:aA t x,hl with
    | [c],_=>
     rw [he] at Mh
     exact (Mh.2 0 c v rfl rfl).1
   ·cases hx
theorem eX.conv {S S':Hp} {ρ':Operand→A} {pv:A} (hc:∀x∈o.op.operands,∀g v,V g (ρ x) v→V g (ρ' x) v) (k:eX P o ρ' S S' pv):eX P o ρ S S' pv:=
 fun g w a next Q hI hv K=>k g w a next Q hI (fun x hx=>hc x hx g _ (hv x hx)) K
def told (ρ:Operand→A) (y:Operand) (p:A):Operand→A:=fun z=>open Classical in if z=y then p else ρ z
theorem fX {ρ:Operand→A} {y:Operand} {p:A}:told ρ y p y=p:=if_pos rfl
theorem nX {ρ:Operand→A} {y z:Operand} {p:A} (h:z≠y):told ρ y p z=ρ z:=if_neg h
theorem o8 {ρ:Operand→A} {y:Operand} {p:A} (h:∀g v,V g (ρ y) v→V g p v):∀(x:Operand) (g:G) (v:Value),V g (ρ x) v→V g (told ρ y p x) v:=fun x g v hv=>by
 by_cases hx:x=y
 ·subst hx;rw [fX];exact h g v hv
 ·rw [nX hx];exact hv
def QA (h:H) (r j:Nat) (k:(ka:Bool)→(tk:Ty)→(va:Bool)→(tv:Ty)→List (tk.T×tv.T)→Option β):Option β:=match bu h.rg r with
 | some ⟨_,.map ka tk va tv,c⟩=>bif Nat.blt r 64 then k ka tk va tv (nth (α:=List (tk.T×tv.T)) [] c j) else none
 | _=>none
def hZ (ka:Bool) (tk:Ty) (va:Bool) (tv:Ty) (es:List (tk.T×tv.T)):List (A×A):=es.map fun e=>(bY ka tk e.1,bY va tv e.2)
theorem Aa {ka va:Bool} {tk tv:Ty} {c:List (List (tk.T×tv.T))} {j:Nat} (h:j<c.length):dP (.map ka tk va tv) c j=some (.cN (.map (hZ ka tk va tv (nth [] c j)))):=by
 show (match kV (α:=List (tk.T×tv.T)) c j with | some es=>some (Ob.cN (.map (hZ ka tk va tv es))) | none=>none)=_
 have e:kV c j=some (nth [] c j):=by simp [kV,nth,zA,zD h]
 rw [e]
theorem xd {q j:Nat} {k:(ka:Bool)→(tk:Ty)→(va:Bool)→(tv:Ty)→List (tk.T×tv.T)→Option β} (hr:QA h q j k=some r):∃(ka:Bool) (tk:Ty) (va:Bool) (tv:Ty) (es:List (tk.T×tv.T)),k ka tk va tv es=some r∧q<64∧(∃x:Rg,bu h.rg q=some x∧∃c:List (List (tk.T×tv.T)),x=⟨x.r,.map ka tk va tv,c⟩∧es=nth [] c j) ∧
  ∀g S (w:World) b s,Inv g S w→S.ob (fj q j)=(hp h).ob (fj q j)→(S.fr (fj q j)↔(hp h).fr (fj q j))→g.bm (fj q j)=some (some b,s)→S.ob (fj q j)=some (.cN (.map (hZ ka tk va tv es))):=by
 unfold QA at hr
 split at hr
 ·rename_i rr ka tk va tv c hf
  obtain ⟨h1,h2⟩:=ah hr
  have h3:q<64:=a_ h1
  refine ⟨ka,tk,va,tv,_,h2,h3,⟨_,hf,c,rfl,rfl⟩,fun g S w b s hI e e2 hg=>?_⟩
  have dD:j<List.length (α:=List (tk.T×tv.T)) c:=by
   rcases Nat.lt_or_ge j (List.length (α:=List (tk.T×tv.T)) c) with dD | uQ
   ·exact dD
   ·have:S.fr (fj q j):=e2.2 (by rw [gk.2,fT h3 hf];exact uQ)
    have:=hI.fresh _ this
    rw [this] at hg;cases hg
  rw [e,gk.1,kM h3 hf]
  exact Aa dD
 ·cases hr
def AN (ok:Bool) (z:A) (res:Option (Nat×A)) (h:H) (T:Fp) (K:A→H→Fp→Option β):Option β:=bif ok then K (.jt [zr z res,.v (.bool res.isSome)]) h T else B3 (zr z res) (fun v=>K v h T)
theorem yD {ok:Bool} {z:A} {res:Option (Nat×A)} {T:List Nat} (hd:∀c,o.op≠.defer c) (hr:AN ok z res h (.rd T) K=some r) (k:∀S2,Agree (.rd T) (hp h) S2→eX P o ρ S2 S2 (bif ok then .jt [zr z res,.v (.bool res.isSome)] else zr z res)):Out P o ρ h K r:=by
 unfold AN at hr
 cases ok with
 | true=>exact .read T hr k hd
 | false=>exact .sp hr (.read _ k hd)
def KG (E:Env) (T:Nat) (ok:Bool) (px py:A) (h:H) (K:A→H→Fp→Option β):Option β:=match cz E.dN T with
 | some ⟨.map KT VT,_,_,_,_,_,_⟩=>match cz E.dN KT,cz E.dN VT with
  | some e,some e2=>match BO e2.zero with
   | some z=>match px with
    | .mp (.loc q)=>match h.t.get q with
     | some (.cN (.map es))=>match iT E KT e.d py py with
      | some _=>bif lM E e.d && Nat.blt q 16777216 then sR (iT E KT e.d py) es 0 (fun res=>AN ok z res h (.rd [dq q]) K) else none
      | none=>none
     | _=>none
    | .mp (.eF q j)=>QA h q j (fun ka tk va tv es=>bif C8 E KT e ka tk && lM E e.d then (match kP ka tk py with
     | some x=>opt (E3 (sT tk x) es 0) (AN ok z none h (.rd [h_ q]) K) (fun p=>AN ok z (some (p.1,bY va tv p.2)) h (.rd [h_ q]) K)
     | none=>none) else none)
    | _=>none
   | none=>none
  | _,_=>none
 | _=>none
theorem Gy (hE:bW P E) {T:Nat} {x y:Operand} {ok:Bool} (ho:o.op = .lookup T x y ok) (hr:KG E T ok (ρ x) (ρ y) h K=some r):Out P o ρ h K r:=by
 have hd:∀c,o.op≠.defer c:=by rw [ho];intro c e;cases e
 unfold KG at hr
 split at hr
 ·rename_i KT VT _ _ _ _ _ _ ht
  have hT:=(hE.dN _ _ ht).u
  split at hr
  ·rename_i e e2 he Q8
   obtain ⟨i,t1,t2,t3,t4,t5,t6⟩:=(hE.dN _ _ Q8).ti
   split at hr
   ·rename_i z hz
    have hzz:=BN hz t6
    split at hr
    ·rename_i q hx
     split at hr
     ·rename_i es hg
      split at hr
      ·rename_i b hs
       obtain ⟨h1,hr⟩:=ah hr
       simp only [zC] at h1
       have hq:=a_ h1.2
       obtain ⟨res,k1,k2⟩:=oH _ _ _ hr
       have eY:(hp h).ob q=some (.cN (.map es)):=by rw [jY hq];unfold fG;rw [hg];rfl
       exact yD hd k1 (fun S2 hA=>qS hE ho hT he Q8 h1.1 hs hx ((hA q (aB hq (.head _))).1.trans eY) k2 hzz)
      ·cases hr
     ·cases hr
    ·rename_i q j hx
     obtain ⟨ka,tk,va,tv,es,hr,hq,_,eY⟩:=xd hr
     obtain ⟨h1,hr⟩:=ah hr
     simp only [zC] at h1
     split at hr
     ·rename_i kx ra
      have j_:x≠y:=fun e=>by
       rw [←e,hx] at ra
       unfold kP at ra
       cases ka with
       | true=>cases ra
       | false=>
        simp only [cond_false,xm,A.cells] at ra
        obtain ⟨_,ra⟩:=ah ra
        have hs:=h1.1
        unfold C8 at hs
        split at hs
        ·simp only [Bool.not_false,Bool.true_and] at hs
         split at hs
         ·simp [oT] at ra
         ·cases hs
        ·simp at hs
        ·cases hs
      have main:∀res,E3 (sT tk kx) es 0=res→AN ok z (res.map fun p=>(p.1,bY va tv p.2)) h (.rd [h_ q]) K=some r→Out P o ρ h K r:=fun res hm hr=>by
       refine yD hd hr (fun S2 hA=>eX.bm fun g w a hI hv=>?_)
       have uP:=hv x (by simp [ho,Op.operands])
       rw [hx] at uP
       have ha:=hA (fj q j) (cb (r:=q) (j:=j) hq (.head _))
       have vT:∃b s,g.bm (fj q j)=some (some b,s):=by
        generalize a.eval x=vx at uP
        cases uP with
        | mp _ b s bL=>exact ⟨b,s,bL⟩
       obtain ⟨b,s,bL⟩:=vT
       have dX:=eY g S2 w b s hI ha.1 ha.2 bL
       refine eX.conv (ρ':=told ρ y (bY ka tk kx)) (fun x _ g v hv=>o8 (fun g v hv=>jV ra hv) x g v hv) ?_
       have hf:=km (va:=va) (tv:=tv) he h1.1 kx es 0
       rw [hm] at hf
       exact qS (X:=.eF q j) (es:=hZ ka tk va tv es) hE ho hT he Q8 h1.2 (b:=sT tk kx kx) (by rw [fX];exact tU he h1.1 kx kx) (by rw [nX j_,hx]) dX (by rw [fX];exact hf) hzz
      rcases ic hr with ⟨e,hr⟩ | ⟨p,e,hr⟩
      ·exact main none e hr
      ·exact main (some p) e hr
     ·cases hr
    ·cases hr
   ·cases hr
  ·cases hr
 ·cases hr
def QB (h:H) (K:A→H→Fp→Option β):Option β:=mY (.cN (.map [])) h (fun q h'=>K (.mp (.loc q)) h' (.wr [dq q]))
theorem Gw {T:Nat} (ho:o.op = .makeMap T none) (hr:QB h K=some r):Out P o ρ h K r:=by
 have hd:∀c,o.op≠.defer c:=by rw [ho];intro c e;cases e
 obtain ⟨h',k1,hq,hf,hh⟩:=fO hr
 exact ⟨_,_,_,k1,.of _ hh rfl (fun u hu=>by rcases zF.1 hu with rfl;exact aB (o:=h.aQ) hq (.head _)) (fun S2 hA=>vu ho ((hA _ (aB hq (.head _))).2.2 hf)) hd⟩
def Ag (h:H) (q j:Nat) (ka:Bool) (tk:Ty) (va:Bool) (tv:Ty) (es:List (tk.T×tv.T)) (k:H→Option β):Option β:=bif vK h (h_ q) then none else match bu h.rg q with
 | some ⟨_,.map Wg TX UW TW,c⟩=>if ka=Wg∧va=UW then (match fK (.aJ (.pair tk tv)) (.aJ (.pair TX TW)) es with
  | some nH=>k { h with rg:=ja h.rg q (.map Wg TX UW TW) (aS (α:=List (TX.T×TW.T)) c j nH) }
  | none=>none) else none
 | _=>none
theorem qI {ka va:Bool} {tk tv:Ty} {c:List (List (tk.T×tv.T))} {j:Nat} {es:List (tk.T×tv.T)} (hj:j<c.length) (i:Nat):dP (.map ka tk va tv) (aS c j es) i=if i=j then some (.cN (.map (hZ ka tk va tv es))) else dP (.map ka tk va tv) c i:=by
 show (match kV (α:=List (tk.T×tv.T)) (aS c j es) i with | some es=>some (Ob.cN (.map (hZ ka tk va tv es))) | none=>none)=if i=j then some (.cN (.map (hZ ka tk va tv es))) else (match kV (α:=List (tk.T×tv.T)) c i with | some es=>some (Ob.cN (.map (hZ ka tk va tv es))) | none=>none)
 rw [oC]
 by_cases h:i=j
 ·rw [if_pos ⟨h,hj⟩,if_pos h]
 ·rw [if_neg (fun k=>h k.1),if_neg h]
theorem tE {q j:Nat} {ka:Bool} {tk:Ty} {va:Bool} {tv:Ty} {es:List (tk.T×tv.T)} {k:H→Option β} (h3:q<64) (hr:Ag h q j ka tk va tv es k=some r):∃h',k h'=some r∧wH h h' (.eF q j) (.cN (.map (hZ ka tk va tv es))):=by
 obtain ⟨_,hr⟩:=iY hr
 split at hr
 ·rename_i rr Wg TX UW TW c hf
  split at hr
  ·rename_i e
   obtain ⟨rfl,rfl⟩:=e
   split at hr
   rotate_left
   ·cases hr
   rename_i nH qj
   obtain ⟨e,qj⟩:=cr qj
   cases e
   obtain rfl:es=nH:=qj
   refine ⟨_,hr,fun i hi=>?_,fun nR=>?_⟩
   ·have hn:=qz h3 hi
    have:=lz (h:=h) (k:=.map ka tk va tv) (c:=aS (α:=List (tk.T×tv.T)) c j es) hf i
    rw [if_neg hn,if_neg hn] at this
    exact this
   ·have dD:j<List.length (α:=List (tk.T×tv.T)) c:=by
     rcases Nat.lt_or_ge j (List.length (α:=List (tk.T×tv.T)) c) with dD | uQ
     ·exact dD
     ·exact absurd (by rw [show (Ref.eF q j).id=fj q j from rfl,gk.2,fT h3 hf];exact uQ) nR
    exact q9 (j:=j) (u:=.set (fj q j) _) h3 hf (p_ (α:=List (tk.T×tv.T)) c j _) (fun i hi=>by rw [qI (c:=c) dD,if_neg hi]) rfl (by rw [qI (c:=c) dD,if_pos rfl];exact w5) rfl
  ·cases hr
 ·cases hr
def yA (E:Env) (T:Nat) (ins ne:Bool) (px py pz:A) (h:H) (K:A→H→Fp→Option β):Option β:=match cz E.dN T with
 | some ⟨.map KT _,_,_,_,_,_,_⟩=>match cz E.dN KT with
  | some e=>match px with
   | .mp (.loc q)=>match h.t.get q with
    | some (.cN (.map es))=>match iT E KT e.d py py with
     | some _=>bif lM E e.d && Nat.blt q 16777216 && !(vK h (dq q)) then sR (iT E KT e.d py) es 0 (fun res=>match res with
      | none=>ff h.t q (some (.cN (.map (es++[(py,pz)])))) (fun t1=>K .cI { h with t:=t1 } (.wr [dq q]))
      | some _=>none) else none
     | none=>none
    | _=>none
   | .mp (.eF q j)=>QA h q j (fun ka tk va tv es=>bif C8 E KT e ka tk && lM E e.d && ne then (match kP ka tk py,kP va tv pz with
    | some x,some y=>opt (E3 (sT tk x) es 0) (Ag h q j ka tk va tv (cat es [(x,y)]) (fun h'=>K .cI h' (.wr [h_ q])))
     (fun p=>bif ins then none else Ag h q j ka tk va tv (KB es p.1 y) (fun h'=>K .cI h' (.wr [h_ q])))
    | _,_=>none) else none)
   | _=>none
  | none=>none
 | _=>none
theorem vH {κ α:Type} {p:κ→Bool}:∀(l:List (κ×α)) (i n:Nat) (v:α),E3 p l i=some (n,v)→∃m k,n=i+m∧l[m]?=some (k,v)∧p k=true
 | [],_,_,_,h=>by cases h
 | (k,v)::l,i,n,v',h=>by
  unfold E3 at h
  cases hk:p k with
  | true=>rw [hk] at h;cases h;exact ⟨0,k,rfl,rfl,hk⟩
  | false=>
   rw [hk] at h
   obtain ⟨m,k',h1,h2,h3⟩:=vH l (i+1) n v' h
   exact ⟨m+1,k',by omega,h2,h3⟩
theorem V.Gs {g:G} {X:Ref} {v:Value} (hv:V g (.mp X) v):∃b s,g.bm X.id=some (some b,s):=by
 cases hv with
 | mp _ b s bL=>exact ⟨b,s,bL⟩
theorem vl {E:Env} {K:Nat} {e:cU} {ka:Bool} {tk:Ty} {X:Ref} {kx:tk.T} (hs:C8 E K e ka tk=true) (ra:kP ka tk (.mp X)=some kx):False:=by
 unfold kP at ra
 cases ka with
 | true=>cases ra
 | false=>
  simp only [cond_false,xm,A.cells] at ra
  obtain ⟨_,ra⟩:=ah ra
  unfold C8 at hs
  split at hs
  ·simp only [Bool.not_false,Bool.true_and] at hs
   split at hs
   ·simp [oT] at ra
   ·cases hs
  ·simp at hs
  ·cases hs
theorem vF (hE:bW P E) {T:Nat} {x y z:Operand} {ins ne:Bool} (hzy:ne=true→z≠y) (ho:(ins=false∧o.op = .mapUpdate T x y z)∨(ins=true∧o.op = .insert T x y z)) (hr:yA E T ins ne (ρ x) (ρ y) (ρ z) h K=some r):Out P o ρ h K r:=by
 have hd:∀c,o.op≠.defer c:=by rcases ho with ⟨_,ho⟩ | ⟨_,ho⟩<;>(rw [ho];intro c e;cases e)
 have DA:o.op = .mapUpdate T x y z∨o.op = .insert T x y z:=by rcases ho with ⟨_,ho⟩ | ⟨_,ho⟩<;>simp [ho]
 have nE:x∈o.op.operands:=by rcases DA with ho | ho<;>simp [ho,Op.operands]
 unfold yA at hr
 split at hr
 ·rename_i KT VT _ _ _ _ _ _ ht
  have hT:=(hE.dN _ _ ht).u
  split at hr
  ·rename_i e he
   split at hr
   ·rename_i q hx
    split at hr
    ·rename_i es hg
     split at hr
     ·rename_i b hs
      obtain ⟨h1,hr⟩:=ah hr
      simp only [zC] at h1
      have hq:=a_ h1.1.2
      obtain ⟨res,k1,k2⟩:=oH _ _ _ hr
      have eY:(hp h).ob q=some (.cN (.map es)):=by rw [jY hq];unfold fG;rw [hg];rfl
      split at k1
      ·obtain ⟨_,t1,k3,k4⟩:=bt k1
       exact ⟨_,_,_,k3,.of [.set q (.cN (.map (es++[(ρ y,ρ z)])))] (po (x:=.cN (.map (es++[(ρ y,ρ z)]))) hq k4) rfl (fun u hu=>by rcases zF.1 hu with rfl;exact aB (o:=q) hq (.head _))
        (fun S2 hA=>yx hE DA hT he h1.1.1 hs hx ((hA q (aB hq (.head _))).1.trans eY) (fun g v hv=>hv) (fun g v hv=>hv) k2) hd⟩
      ·cases k1
     ·cases hr
    ·cases hr
   ·rename_i q j hx
    obtain ⟨ka,tk,va,tv,es,hr,hq,_,eY⟩:=xd hr
    obtain ⟨h1,hr⟩:=ah hr
    simp only [zC] at h1
    split at hr
    ·rename_i kx vy ra Wr
     have j_:x≠y:=fun e=>by rw [←e,hx] at ra;exact vl h1.1.1 ra
     have hX:AD (.eF q j)=true:=by show Nat.blt q 64=true;simpa using hq
     have Ai:∀(g:G) (S:Hp) (w:World) (a:Act),Inv g S w→(∀x∈o.op.operands,V g (ρ x) (a.eval x))→g.bm (Ref.eF q j).id≠none:=fun g S w a hI hv=>by
      have uP:=hv x nE
      rw [hx] at uP
      obtain ⟨b,s,bL⟩:=uP.Gs
      rw [bL];intro h;cases h
     have here:∀S2,Agree (.wr (iE (.eF q j)::[])) (hp h) S2→∀{S':Hp} {pv:A},(S2.ob (fj q j)=some (.cN (.map (hZ ka tk va tv es)))→eX P o ρ S2 S' pv)→eX P o ρ S2 S' pv:=fun S2 hA _ _ k=>eX.bm fun g w a hI hv=>by
      have uP:=hv x nE
      rw [hx] at uP
      obtain ⟨b,s,bL⟩:=uP.Gs
      have ha:=hA (fj q j) (cb (r:=q) (j:=j) hq (.head _))
      exact k (eY g S2 w b s hI ha.1 ha.2 bL)
     have Us:told ρ y (bY ka tk kx) x = .mp (.eF q j):=by rw [nX j_,hx]
     have Mf:∀g v,V g (told ρ y (bY ka tk kx) z) v→V g (bY va tv vy) v:=fun g v hv=>by
      rw [nX (hzy h1.2)] at hv;exact jV Wr hv
     have conv:=fun {S S':Hp} {pv:A}=>eX.conv (P:=P) (o:=o) (ρ:=ρ) (ρ':=told ρ y (bY ka tk kx)) (S:=S) (S':=S') (pv:=pv) (fun x _ g v hv=>o8 (fun g v hv=>jV ra hv) x g v hv)
     have hs:iT E KT e.d (told ρ y (bY ka tk kx) y) (told ρ y (bY ka tk kx) y)=some (sT tk kx kx):=by rw [fX];exact tU he h1.1.1 kx kx
     have hf:=km (va:=va) (tv:=tv) he h1.1.1 kx es 0
     rcases ic hr with ⟨e1,hr⟩ | ⟨p,e1,hr⟩
     ·obtain ⟨h',k1,k2⟩:=tE hq hr
      refine ⟨_,_,_,k1,.put hd hX k2 Ai (fun S2 hA=>here S2 hA fun dX=>?_)⟩
      have e2:hZ ka tk va tv (cat es [(kx,vy)])=hZ ka tk va tv es++[(bY ka tk kx,bY va tv vy)]:=by simp [hZ,cat]
      rw [e2]
      rw [e1] at hf
      exact conv (yx (X:=.eF q j) hE DA hT he h1.1.2 hs Us dX (fun g v hv=>by rw [fX] at hv;exact hv) Mf (by rw [fX];exact hf))
     ·cases hi:ins with
      | true=>rw [hi] at hr;cases hr
      | false=>
       rw [hi] at hr;simp only [cond_false] at hr
       obtain ⟨h',k1,k2⟩:=tE hq hr
       refine ⟨_,_,_,k1,.put hd hX k2 Ai (fun S2 hA=>here S2 hA fun dX=>?_)⟩
       have e2:hZ ka tk va tv (KB es p.1 vy)=AL (hZ ka tk va tv es) p.1 (bY va tv vy):=by
        unfold hZ KB AL
        apply List.ext_getElem?
        intro m
        simp only [zL,List.getElem?_modify]
        cases es[m]? with
        | none=>rfl
        | some u=>
         by_cases hm:p.1=m
         ·simp [hm]
         ·simp [hm]
       rw [e2]
       rw [e1] at hf
       obtain ⟨m,kk,m1,m2,m3⟩:=vH es 0 p.1 p.2 e1
       have hmu:o.op = .mapUpdate T x y z:=by
        rcases ho with ⟨_,ho⟩ | ⟨hh,_⟩
        ·exact ho
        ·rw [hi] at hh;cases hh
       refine conv (CK (X:=.eF q j) (n:=p.1) hE hmu hT he h1.1.2 hs Us dX Mf (by rw [fX];exact hf) (fun g v u v' hu hv wM=>?_))
       rw [fX] at hv
       have vP:(hZ ka tk va tv es)[p.1]?=some (bY ka tk kk,bY va tv p.2):=by
        rw [m1,Nat.zero_add]
        unfold hZ
        rw [zL,m2];rfl
       rw [vP] at hu
       cases hu
       exact C7 h1.1.1 m3 hv wM
    ·cases hr
   ·cases hr
  ·cases hr
 ·cases hr
end
end
section
open Go.RowKit
section
variable {P:Program} {E:Env} {o:Oper} {ρ:Operand→A} {h:H} {β:Type} {K:A→H→Fp→Option β} {r:β}
def C2 (E:Env) (T:Nat) (px py:A) (h:H) (K:A→H→Fp→Option β):Option β:=match cz E.dN T with
 | some ⟨.map KT _,_,_,_,_,_,_⟩=>match cz E.dN KT with
  | some e=>match px with
   | .mp (.loc q)=>match h.t.get q with
    | some (.cN (.map es))=>match iT E KT e.d py py with
     | some _=>bif lM E e.d && Nat.blt q 16777216 && !(vK h (dq q)) then sR (iT E KT e.d py) es 0 (fun res=>ff h.t q (some (.cN (.map (D6 es res)))) (fun t1=>K .cI { h with t:=t1 } (.wr [dq q]))) else none
     | none=>none
    | _=>none
   | .mp (.eF q j)=>QA h q j (fun ka tk va tv es=>bif C8 E KT e ka tk && lM E e.d then (match kP ka tk py with
    | some x=>opt (E3 (sT tk x) es 0) (Ag h q j ka tk va tv es (fun h'=>K .cI h' (.wr [h_ q])))
     (fun p=>Ag h q j ka tk va tv (KE es p.1) (fun h'=>K .cI h' (.wr [h_ q])))
    | none=>none) else none)
   | _=>none
  | none=>none
 | _=>none
theorem D9 {ka:Bool} {tk:Ty} {va:Bool} {tv:Ty} (es:List (tk.T×tv.T)) (p:Option (Nat×tv.T)) :
  hZ ka tk va tv (match p with | some p=>KE es p.1 | none=>es)=D6 (hZ ka tk va tv es) (p.map fun p=>(p.1,bY va tv p.2)):=by
 cases p with
 | none=>rfl
 | some p=>
  show (es.eraseIdx p.1).map _=(es.map _).eraseIdx p.1
  generalize p.1=n
  induction es generalizing n with
  | nil=>rfl
  | cons a es ih=>cases n with
   | zero=>rfl
   | succ n=>simp only [List.map_cons,List.eraseIdx_cons_succ,List.map_cons,ih n]
theorem C1 (hE:bW P E) {T:Nat} {x y:Operand} {Ts:Array TypeId} (ho:o.op = .call { callee:=.builtin .delete,args:=#[x,y],argTypes:=Ts }) (h0:Ts[0]?=some T) (hr:C2 E T (ρ x) (ρ y) h K=some r):Out P o ρ h K r:=by
 have hd:∀c,o.op≠.defer c:=by rw [ho];intro c e;cases e
 have nE:x∈o.op.operands:=by simp [ho,Op.operands,Call.operands]
 unfold C2 at hr
 split at hr
 ·rename_i KT VT _ _ _ _ _ _ ht
  have hT:=(hE.dN _ _ ht).u
  split at hr
  ·rename_i e he
   split at hr
   ·rename_i q hx
    split at hr
    ·rename_i es hg
     split at hr
     ·rename_i b hs
      obtain ⟨h1,hr⟩:=ah hr
      simp only [zC] at h1
      have hq:=a_ h1.1.2
      obtain ⟨res,k1,k2⟩:=oH _ _ _ hr
      have eY:(hp h).ob q=some (.cN (.map es)):=by rw [jY hq];unfold fG;rw [hg];rfl
      obtain ⟨_,t1,k3,k4⟩:=bt k1
      exact ⟨_,_,_,k3,.of [.set q (.cN (.map (D6 es res)))] (po (x:=.cN (.map (D6 es res))) hq k4) rfl (fun u hu=>by rcases zF.1 hu with rfl;exact aB (o:=q) hq (.head _))
       (fun S2 hA=>qT hE ho h0 hT he h1.1.1 hs hx ((hA q (aB hq (.head _))).1.trans eY) k2) hd⟩
     ·cases hr
    ·cases hr
   ·rename_i q j hx
    obtain ⟨ka,tk,va,tv,es,hr,hq,_,eY⟩:=xd hr
    obtain ⟨h1,hr⟩:=ah hr
    simp only [zC] at h1
    split at hr
    ·rename_i kx ra
     have j_:x≠y:=fun e=>by rw [←e,hx] at ra;exact vl h1.1 ra
     have hX:AD (.eF q j)=true:=by show Nat.blt q 64=true;simpa using hq
     have Ai:∀(g:G) (S:Hp) (w:World) (a:Act),Inv g S w→(∀x∈o.op.operands,V g (ρ x) (a.eval x))→g.bm (Ref.eF q j).id≠none:=fun g S w a hI hv=>by
      have uP:=hv x nE
      rw [hx] at uP
      obtain ⟨b,s,bL⟩:=uP.Gs
      rw [bL];intro h;cases h
     have here:∀S2,Agree (.wr (iE (.eF q j)::[])) (hp h) S2→∀{S':Hp} {pv:A},(S2.ob (fj q j)=some (.cN (.map (hZ ka tk va tv es)))→eX P o ρ S2 S' pv)→eX P o ρ S2 S' pv:=fun S2 hA _ _ k=>eX.bm fun g w a hI hv=>by
      have uP:=hv x nE
      rw [hx] at uP
      obtain ⟨b,s,bL⟩:=uP.Gs
      have ha:=hA (fj q j) (cb (r:=q) (j:=j) hq (.head _))
      exact k (eY g S2 w b s hI ha.1 ha.2 bL)
     have Us:told ρ y (bY ka tk kx) x = .mp (.eF q j):=by rw [nX j_,hx]
     have conv:=fun {S S':Hp} {pv:A}=>eX.conv (P:=P) (o:=o) (ρ:=ρ) (ρ':=told ρ y (bY ka tk kx)) (S:=S) (S':=S') (pv:=pv) (fun x _ g v hv=>o8 (fun g v hv=>jV ra hv) x g v hv)
     have hs:iT E KT e.d (told ρ y (bY ka tk kx) y) (told ρ y (bY ka tk kx) y)=some (sT tk kx kx):=by rw [fX];exact tU he h1.1 kx kx
     have hf:=km (va:=va) (tv:=tv) he h1.1 kx es 0
     have main:∀p,E3 (sT tk kx) es 0=p→Ag h q j ka tk va tv (match p with | some p=>KE es p.1 | none=>es) (fun h'=>K .cI h' (.wr [h_ q]))=some r→Out P o ρ h K r:=fun p Dw hr=>by
      obtain ⟨h',k1,k2⟩:=tE hq hr
      refine ⟨_,_,_,k1,.put hd hX k2 Ai (fun S2 hA=>here S2 hA fun dX=>?_)⟩
      rw [Dw] at hf
      rw [D9]
      exact conv (qT (X:=.eF q j) hE ho h0 hT he h1.2 hs Us dX (by rw [fX];exact hf))
     rcases ic hr with ⟨e1,hr⟩ | ⟨p,e1,hr⟩
     ·exact main none e1 hr
     ·exact main (some p) e1 hr
    ·cases hr
   ·cases hr
  ·cases hr
 ·cases hr
def xr:List (Nat×Nat)→Nat→Option Nat
 | [],_=>none
 | (t,r)::l,T=>bif Nat.beq t T then some r else xr l T
def Cw (h:H) (q:Nat) (t:Ty) (x:t.T) (k:Nat→H→Option β):Option β:=bif vK h (h_ q) then none else match bu h.rg q with
 | some ⟨_,.box t',c⟩=>match fK t t' x with
  | some x'=>bif Nat.blt q 64 then k (len (α:=t'.T) c) { h with rg:=ja h.rg q (.box t') (cat (α:=t'.T) c [x']) } else none
  | none=>none
 | _=>none
theorem vk {q:Nat} {t:Ty} {x:t.T} {k:Nat→H→Option β} (hr:Cw h q t x k=some r):∃h' j,k j h'=some r∧q<64∧(hp h).fr (fj q j)∧hp h'=app [.new (fj q j) (.cells (aA t x))] (hp h):=by
 obtain ⟨_,hr⟩:=iY hr
 split at hr
 ·rename_i rr t' c hf
  split at hr
  ·rename_i x' hx
   obtain ⟨e,hx⟩:=cr hx
   subst e
   obtain rfl:x=x':=hx
   obtain ⟨h1,hr⟩:=ah hr
   have h3:q<64:=a_ h1
   refine ⟨_,_,hr,h3,?_,?_⟩
   ·rw [gk.2,fT h3 hf];exact Nat.le_refl _
   ·exact ov (k:=.box t) (c:=cat (α:=t.T) c [x]) (n:=List.length (α:=t.T) c) h3 hf rfl (oq (α:=t.T) c _) (fun j=>qK (c:=c) (x:=x) j)
  ·cases hr
 ·cases hr
theorem V.FQ {g:G} {q j:Nat} {v:Value} (hv:V g (.ptr (fj q j) 0) v):V g (.tp (.eF q j) []) v:=by
 cases hv with
 | ptr _ _ b s hb=>exact .tp (.eF q j) [] b s hb trivial
def LV (E:Env) (hm:List (Nat×Nat)) (T:Nat) (h:H) (K:A→H→Fp→Option β):Option β:=match xr hm T with
 | some q=>match cz E.dN T with
  | some e=>match e.t with
   | some t=>Cw h q t t.cM (fun j h'=>K (.tp (.eF q j) []) h' (.wr [h_ q]))
   | none=>none
  | none=>none
 | none=>LW E T h K
theorem HB (hE:bW P E) {hm:List (Nat×Nat)} {T:Nat} (ho:o.op = .alloc T) (hr:LV E hm T h K=some r):Out P o ρ h K r:=by
 have hd:∀c,o.op≠.defer c:=by rw [ho];intro c e;cases e
 unfold LV at hr
 split at hr
 ·rename_i q _
  split at hr
  ·rename_i e ht
   have hk:=hE.dN _ _ ht
   obtain ⟨i,t1,t2,t3,t4,t5,t6⟩:=hk.ti
   split at hr
   ·rename_i t wN
    obtain ⟨h',j,k1,hq,hf,hh⟩:=vk hr
    exact ⟨_,_,_,k1,Step.BQ (.of _ hh rfl (fun u hu=>by rcases zF.1 hu with rfl;exact cb (r:=q) (j:=j) hq (.head _)) (fun S2 hA=>ny ho t1 t2 (hk.tz t wN) ((hA _ (cb (r:=q) (j:=j) hq (.head _))).2.2 hf)) hd) (fun g v hv=>hv.FQ)⟩
   ·cases hr
  ·cases hr
 ·exact HC hE ho hr
def LN (E:Env) (hm:List (Nat×Nat)) (T:Nat) (px:A) (h:H) (K:A→H→Fp→Option β):Option β:=match xr hm T with
 | some q=>match cz E.dN T,px.cells with
  | some e,some ps=>match e.t with
   | some t=>match fixC 64 t ps h with
    | some (tG,h1,T1)=>match oT t tG with
     | some x=>Cw h1 q t x (fun j h'=>K (.tp (.eF q j) []) h' (.wr (h_ q::T1)))
     | none=>none
    | none=>none
   | none=>none
  | _,_=>none
 | none=>Ew E T px h K
theorem Step.V9 {T1:List Nat} {h1 h2:H} {us:List Up} {x:Ob} {pv:A} {q j:Nat} (c1:hp h1=app us (hp h)) (c2:∀u∈us,aG (.wr T1) u.id=true) (hq:q<64) (hf:(hp h1).fr (fj q j)) (hh:hp h2=app [.new (fj q j) x] (hp h1)) (hd:∀c,o.op≠.defer c)
  (k:∀S2 g w a,Agree (.wr T1) (hp h) S2→(app us S2).fr (fj q j)→Inv g S2 w→(∀x∈o.op.operands,V g (ρ x) (a.eval x))→sn P o S2 ((app us S2).new (fj q j) x) pv g w a):Step P o ρ h h2 (.wr (h_ q::T1)) pv:=
 .of (us++[.new (fj q j) x]) (by rw [ir,←c1,hh]) rfl (fun u hu=>by
  rcases zX.1 hu with hu | hu
  ·exact eZ (fun i hi=>.tail _ hi) (c2 u hu)
  ·rcases zF.1 hu with rfl;exact cb (r:=q) (j:=j) hq (.head _)) (fun S2 hA g w a next Q hI hv K'=>by
  have nR:(app us S2).fr (fj q j):=by
   have:=Agree.app us hA
   rw [←c1] at this
   exact (this (fj q j) (cb hq (.head _))).2.2 hf
  have e:=ir us [.new (fj q j) x] S2
  rw [e] at K'
  exact k S2 g w a (hA.mono fun i hi=>.tail _ hi) nR hI hv next Q K') hd
theorem Ht {S:Hp} {T:TypeId} {x:Operand} {qs:List A} {q:Nat} {g:G} {w:World} {a:Act} (ho:o.op = .box T x) (hI:Inv g S w) (e2:Vs g qs (a.eval x).cells.toList) (hf:S.fr q):sn P o S (S.new q (.cells qs)) (.ptr q 0) g w a:=by
 intro next Q K
 obtain ⟨h1,h2⟩:=hI.lE hf (cs:=qs) (vs:=(a.eval x).cells) T (by have:=e2.1;simp at this ⊢;omega) e2.all
 unfold Oper.wp
 simp only [execOp,ho,Instr.box,Sem.run_bind,Result.andThen_ok,Sem.run_pure,newVar,newRow,run_newObj]
 exact K _ _ _ (.ptr _ _ w.heap.size _ cn) h1 h2
theorem Hr {hm:List (Nat×Nat)} {T:Nat} {x:Operand} (ho:o.op = .box T x) (hr:LN E hm T (ρ x) h K=some r):Out P o ρ h K r:=by
 have hd:∀c,o.op≠.defer c:=by rw [ho];intro c e;cases e
 unfold LN at hr
 split at hr
 ·rename_i q _
  split at hr
  ·rename_i e ps ht sb
   split at hr
   ·rename_i t wN
    split at hr
    ·rename_i tG h1 T1 hf
     split at hr
     ·rename_i y hy
      obtain ⟨us,c1,c2,c3⟩:=oF _ _ _ _ _ _ _ hf
      obtain ⟨h',j,k1,hq,nR,hh⟩:=vk hr
      refine ⟨_,_,_,k1,Step.BQ (pv:=.ptr (fj q j) 0) (.V9 c1 c2 hq nR hh hd (fun S2 g w a hA hf hI hv=>?_)) (fun g v hv=>?_)⟩
      ·obtain ⟨g1,q1,q2,q3⟩:=c3 g S2 w _ hI hA ((hv x (by simp [ho,Op.operands])).cells sb)
       refine sn.pre ?_ q2
       exact Ht ho q1 ((i_ t tG y hy).2 _ q3) hf
      ·cases hv with
       | ptr _ _ b s h0=>exact .tp (.eF q j) [] b s h0 trivial
     ·cases hr
    ·cases hr
   ·cases hr
  ·cases hr
 ·exact Ev ho hr
end
end
section
variable {P:Program} {E:Env} {o:Oper} {ρ:Operand→A} {h:H} {β:Type} {K:A→H→Fp→Option β} {r:β}
def Xv (E:Env) (T f:Nat) (px:A) (h:H) (K:A→H→Fp→Option β):Option β:=match px with
 | .agg cs=>match cz E.dN T with
  | some ⟨.struct fs,_,_,_,_,_,_⟩=>match fs[f]? with
   | some fd=>match cz E.dN fd.type with
    | some e=>bif jD e.d then K (.agg ((cs.drop fd.offset).take e.size)) h .no else (match (cs.drop fd.offset).take e.size with
     | [p]=>B3 p (fun v=>K v h .no)
     | _=>none)
    | none=>none
   | none=>none
  | _=>none
 | _=>none
theorem V.TN {g:G} {cs:List A} {u:Value} (h:V g (.agg cs) u):∃vs,u = .agg vs∧Vs g cs vs.toList:=by
 cases h with
 | agg _ vs hl h1 hh=>
  refine ⟨vs,rfl,by simpa using hl,fun j c x a b=>?_⟩
  have b':vs[j]?=some x:=by simpa using b
  exact ⟨hh j c x a b',h1 x (zG b)⟩
theorem K_ (hE:bW P E) {T f:Nat} {x:Operand} (ho:o.op = .field T x f) (hr:Xv E T f (ρ x) h K=some r):Out P o ρ h K r:=by
 have hd:∀c,o.op≠.defer c:=by rw [ho];intro c e;cases e
 unfold Xv at hr
 split at hr
 ·rename_i cs hx
  split at hr
  ·rename_i fs _ _ _ _ t _ ht
   split at hr
   ·rename_i fd hf
    split at hr
    ·rename_i e he
     have key:∀{S2:Hp} {v:A},(∀g xs,Vs g ((cs.drop fd.offset).take e.size) xs→∃u,valOf e.d xs u∧V g v u)→eX P o ρ S2 S2 v:=fun {S2 v} hk=>.value fun g w a _ hv=>by
      have e1:=hv x (by simp [ho,Op.operands])
      rw [hx] at e1
      obtain ⟨vs,e2,e3⟩:=e1.TN
      obtain ⟨u,h1,h2⟩:=hk g _ (e3.part fd.offset e.size)
      refine ⟨u,?_,h2⟩
      simp only [execOp,ho,e2,Sem.run_bind,Instr.field,run_underlying (hE.dN _ _ ht).u,Result.andThen_ok,hf,asAgg,Sem.run_pure,oa (hE.dN _ _ he) h1 w]
     cases ha:jD e.d with
     | true=>
      rw [ha] at hr
      refine .pure hr (fun S2=>key fun g xs xp=>⟨.agg xs.toArray,by simp [valOf,ha],?_⟩) hd
      exact .agg _ _ (by simpa using xp.1) (fun v hm=>by
       obtain ⟨j,hj⟩:=List.getElem?_of_mem hm
       simp only [List.toList_toArray] at hj
       have dD:j<((cs.drop fd.offset).take e.size).length:=by
        have:=(zB.1 hj).1;have:=xp.1;omega
       exact (xp.2 j _ v (zD dD) hj).2) (fun i c y h1 h2=>(xp.2 i c y h1 (by simpa using h2)).1)
     | false=>
      rw [ha] at hr
      simp only [cond_false] at hr
      split at hr
      ·rename_i p hp
       refine .sp hr (.pure (fun S2=>key fun g xs xp=>?_) hd)
       rw [hp] at xp
       obtain ⟨z,e1,e2⟩:=xp.single
       exact ⟨z,by simp [valOf,ha,e1],e2⟩
      ·cases hr
    ·cases hr
   ·cases hr
  ·cases hr
 ·cases hr
def isNil (py:A):Bool:=match py with
 | .v (.slice none 0 0)=>true
 | _=>false
theorem Dj {py:A} (h:isNil py=true):py = .v (.slice none 0 0):=by
 unfold isNil at h
 split at h
 ·rfl
 ·cases h
def D7 (E:Env) (op:BinOp) (T:Nat) (X:Ref) (z:Nat) (h:H) (K:A→H→Fp→Option β):Option β:=bif isEq op then (match cz E.dN T with
  | some e=>match e.d with
   | .slice _=>jb h X (fun t l=>bif Nat.beq z t.size && Nat.blt 0 z then gd (bp 0 (len l)) (K (.v (.bool (AI op false))) h (.rd [iE X])) else none)
   | _=>none
  | none=>none) else none
def Ll (E:Env) (op:BinOp) (T:Nat) (px py:A) (h:H) (K:A→H→Fp→Option β):Option β:=match px with
 | .tw X z=>bif isNil py then D7 E op T X z h K else Ey E op T px py h K
 | .os r z o=>bif isNil py then opt o none (fun j=>D7 E op T (.eF r j) z h K) else Ey E op T px py h K
 | _=>Ey E op T px py h K
theorem Gd {S:Hp} {op:BinOp} {T T' E:TypeId} {x y:Operand} (ho:o.op = .binOp op T x y T') (hT:P.underlying T=some (.slice E)) (mf:op = .eql∨op = .neq)
  (hy:ρ y = .v (.slice none 0 0)) (hx:∀g w v,Inv g S w→V g (ρ x) v→∃a n c,v = .slice (some a) n c):eX P o ρ S S (.v (.bool (if op = .eql then false else !false))):=
 .value fun g w a hI hv=>by
  have e2:=hv y (by simp [ho,Op.operands])
  rw [hy] at e2
  have e2:=e2.gf
  obtain ⟨A,n,c,h1⟩:=hx g w _ hI (hv x (by simp [ho,Op.operands]))
  have eQ:=yl (P:=P) w hT (some A) n c
  refine ⟨.bool (if op = .eql then false else !false),?_,.v _⟩
  have jZ:(eqGuard op T x y (.slice (some A) n c) (.slice none 0 0)).run P w = .ok () w:=by
   rcases mf with rfl | rfl<;>rfl
  rcases mf with rfl | rfl
  ·have hb:(binOp .eql T (.slice (some A) n c) (.slice none 0 0)).run P w = .ok (.bool false) w:=by
    simp only [binOp];simp [Op.equal,Op.maxDepth,eQ]
   simp only [execOp,ho,h1,e2,Sem.run_bind,jZ,Result.andThen_ok,if_true,hb,Sem.run_pure]
  ·have hb:(binOp .neq T (.slice (some A) n c) (.slice none 0 0)).run P w = .ok (.bool (!false)) w:=by
    simp only [binOp];simp [Op.equal,Op.maxDepth,eQ]
   simp only [execOp,ho,h1,e2,Sem.run_bind,jZ,Result.andThen_ok,hb,Sem.run_pure]
   rfl
theorem y7 (hE:bW P E) {op:BinOp} {T T':TypeId} {x y:Operand} {X:Ref} {z:Nat} (ho:o.op = .binOp op T x y T') (hn:isNil (ρ y)=true) (hx:∀g v,V g (ρ x) v→V g (.tw X z) v) (hr:D7 E op T X z h K=some r):Out P o ρ h K r:=by
 have hd:∀c,o.op≠.defer c:=by rw [ho];intro c e;cases e
 have hy:=Dj hn
 unfold D7 at hr
 obtain ⟨hq,hr⟩:=ah hr
 split at hr
 ·rename_i e ht
  split at hr
  ·rename_i el BE
   obtain ⟨t,l,hr,hX,eY⟩:=eO hr
   obtain ⟨hz,hr⟩:=ah hr
   simp only [zC] at hz
   have QN:=beq_eq hz.1
   have h0:=a_ hz.2
   obtain ⟨hl,hr⟩:=bA hr
   have hl:0<l.length:=hl
   refine .read _ hr (fun S2 hA=>?_) hd
   have dX:=(hA _ (bI hX (.head _))).1.trans eY
   rw [oi _ hq]
   refine Gd ho (by rw [(hE.dN _ _ ht).u,BE]) (lx hq) hy (fun g w v hI hv=>?_)
   have hv:=hx _ _ hv
   rw [QN] at hv
   rcases hv.qy hI (by omega) dX with ⟨ad,_,rfl,rfl⟩ | ⟨b,s,cap,d,_,rfl,_⟩
   ·cases hl
   ·exact ⟨_,_,_,rfl⟩
  ·cases hr
 ·cases hr
theorem Hf (hE:bW P E) {op:BinOp} {T T':TypeId} {x y:Operand} (ho:o.op = .binOp op T x y T') (hr:Ll E op T (ρ x) (ρ y) h K=some r):Out P o ρ h K r:=by
 unfold Ll at hr
 split at hr
 ·rename_i X z hx
  cases hn:isNil (ρ y) with
  | true=>
   rw [hn] at hr
   exact y7 hE ho hn (fun g v hv=>by rwa [hx] at hv) hr
  | false=>
   rw [hn] at hr
   exact uz hE ho hr
 ·rename_i ri z oo hx
  cases hn:isNil (ρ y) with
  | true=>
   rw [hn] at hr
   rcases ic (show opt oo none (fun j=>D7 E op T (.eF ri j) z h K)=some r from hr) with ⟨_,h2⟩ | ⟨j,h1,h2⟩
   ·cases h2
   ·exact y7 hE ho hn (fun g v hv=>by
     rw [hx] at hv
     cases hv with
     | os _ _ _ _ _ k1=>exact k1 j h1) h2
  | false=>
   rw [hn] at hr
   exact uz hE ho hr
 ·exact uz hE ho hr
end
section
open Go.RowKit
section
variable {P:Program} {E:Env} {o:Oper} {ρ:Operand→A} {h:H} {β:Type} {K:A→H→Fp→Option β} {r:β}
structure s_ (P:Program) (f:FuncId) (aa:List A) (h h':H) (T:Fp) (pv:A):Prop where
 out:∀i,aG T i=false→(hp h').ob i=(hp h).ob i∧((hp h').fr i↔(hp h).fr i)
 rd:∀i,wt T i=false→(hp h').ob i=(hp h).ob i∧((hp h').fr i↔(hp h).fr i)
 fn:uK P f
 ok:∀S2,Agree T (hp h) S2→PC P f aa S2 (iS T (hp h') S2) pv
def RC (P:Program) (y:A) (aa:List A) (S S':Hp) (r:A):Prop:=
 ∀g w u (vs:List Value),Inv g S w→V g y u→aa.length=vs.length→(∀(i:Nat) (p:A) (v:Value),aa[i]?=some p→vs[i]?=some v→V g p v) →
  ∃(b:Nat) (rr:Loop),u = .func (.yield b) #[] #[]∧w.heap[b]?=some (.loop rr)∧rr.params.size=vs.length ∧
   RoundIn (FR none) 0 P b rr.fn ((rr.params.zip vs.toArray).foldl (fun tmps (t,a)=>tmps.setIfInBounds t a) rr.tmps) rr.assign rr.body w (fun e w'=>∃v g',e = .returned v∧V g' r v∧Inv g' S' w'∧Ext S g w S' g' w')
structure JR (P:Program) (y:A) (aa:List A) (h h':H) (T:Fp) (pv:A):Prop where
 out:∀i,aG T i=false→(hp h').ob i=(hp h).ob i∧((hp h').fr i↔(hp h).fr i)
 rd:∀i,wt T i=false→(hp h').ob i=(hp h).ob i∧((hp h').fr i↔(hp h).fr i)
 ok:∀S2,Agree T (hp h) S2→RC P y aa S2 (iS T (hp h') S2) pv
theorem AA {y:A} {x:Operand} {xs:Array Operand} {ts:Array TypeId} {S S':Hp} {r:A} (ho:o.op = .call { callee:=.value x,args:=xs,argTypes:=ts }) (hx:ρ x=y) (h:RC P y (xs.toList.map ρ) S S' r):Bu P o ρ S S' r:=by
 intro ro g w a next Q hI hv K
 have e1:=hx▸hv x (by simp [ho,Op.operands,Call.operands])
 obtain ⟨b,rr,hu,h1,h2,h3⟩:=h g w (a.eval x) (xs.toList.map a.eval) hI e1 (by simp) (fun i p v k1 k2=>by
  simp only [zL,Option.map_eq_some_iff,Array.getElem?_toList] at k1 k2
  obtain ⟨y,hy,rfl⟩:=k1
  obtain ⟨y',xo,rfl⟩:=k2
  rw [hy] at xo
  obtain rfl:=Option.some.inj xo
  exact hv y (by simp only [ho,Op.operands,Call.operands];exact Array.mem_append.2 (.inr (Array.mem_of_getElem? hy))))
 refine ⟨fun f _=>trivial,?_⟩
 rw [Oper.semAt_eq _ _ _ (by rw [ho];intro c h;cases h)]
 have ea : #[]++Array.map a.eval xs=(xs.toList.map a.eval).toArray:=by apply Array.ext';simp
 have e:(execOp a.eval o).run P w = .ok (.round b rr.fn ((rr.params.zip (xs.toList.map a.eval).toArray).foldl (fun tmps (t,a)=>tmps.setIfInBounds t a) rr.tmps) rr.assign rr.body) w:=by
  simp only [execOp,ho,resolve,hu,Deferred.ofValue,pure_bind,invoke]
  rw [ea]
  exact run_yield h1 (by simp [h2])
 rw [e]
 refine ⟨fun h=>by simp [FR,Fence.wide] at h,RoundIn.mono (F:=FR ro) h3 ?_⟩
 rintro e w' ⟨v,g',rfl,k1,k2,k3⟩
 exact K v g' w' k1 k2 k3
structure Cx where
 call:(β:Type)→FuncId→List A→H→(A→H→Fp→Option β)→Option β
 hm:List (Nat×Nat)
 rL:(β:Type)→A→List A→H→(A→H→Fp→Option β)→Option β
structure ld (P:Program) (cx:Cx):Prop where
 call:∀(β:Type) (f:FuncId) (aa:List A) (h:H) (K:A→H→Fp→Option β) (r:β),cx.call β f aa h K=some r→∃pv h' T,K pv h' T=some r∧s_ P f aa h h' T pv
 rL:∀(β:Type) (y:A) (aa:List A) (h:H) (K:A→H→Fp→Option β) (r:β),cx.rL β y aa h K=some r→∃pv h' T,K pv h' T=some r∧JR P y aa h h' T pv
def Eu (cx:Cx) (px:A) (aa:List A) (h:H) (K:A→H→Fp→Option β):Option β:=match px with
 | .fn f fi ca=>cx.call β f (fi++aa++ca) h K
 | .rL _ _ _ _ _ _ _=>cx.rL β px aa h K
 | _=>none
theorem Et {cx:Cx} (hx:ld P cx) {x:Operand} {xs:Array Operand} {ts:Array TypeId} (ho:o.op = .call { callee:=.value x,args:=xs,argTypes:=ts }) (hr:Eu cx (ρ x) (xs.toList.map ρ) h K=some r):Out P o ρ h K r:=by
 have hd:∀c,o.op≠.defer c:=by rw [ho];intro c e;cases e
 unfold Eu at hr
 split at hr
 ·rename_i f fi ca Dw
  obtain ⟨pv,h',T,k1,k2⟩:=hx.call β f _ h K r hr
  exact ⟨pv,h',T,k1,⟨k2.out,k2.rd,fun S2 hA=>(Ay ho k2.fn Dw (k2.ok S2 hA)).Je hd⟩⟩
 ·rename_i Dw
  obtain ⟨pv,h',T,k1,k2⟩:=hx.rL β _ _ h K r hr
  exact ⟨pv,h',T,k1,⟨k2.out,k2.rd,fun S2 hA=>AA ho Dw (Dw▸k2.ok S2 hA)⟩⟩
 ·cases hr
def yh:Operand→Operand→Bool
 | .tmp i,.tmp j=>Nat.beq i j
 | .const (.int .i64 (.ofNat a)),.const (.int .i64 (.ofNat b))=>Nat.beq a b
 | _,_=>false
theorem uX {x y:Operand} (h:yh x y=true):x=y:=by
 unfold yh at h
 split at h
 ·rw [beq_eq h]
 ·rw [beq_eq h]
 ·cases h
def Ui:Operand→Operand→Bool
 | .tmp i,.tmp j=>!(Nat.beq i j)
 | .tmp _,.const _=>true
 | .const _,.tmp _=>true
 | _,_=>false
theorem CX {x y:Operand} (h:Ui x y=true):y≠x:=by
 rintro rfl
 cases y<;>simp [Ui] at h
def uY:Option Operand→Option Operand→Bool
 | some x,some y=>yh x y
 | _,_=>false
theorem Cb {x y:Option Operand} (h:uY x y=true):x=y:=by
 unfold uY at h
 split at h
 ·rw [uX h]
 ·cases h
def LQ (E:Env) (b:Builtin) (xs:List Operand) (ts:List TypeId) (ρ:Operand→A) (h:H) (K:A→H→Fp→Option β):Option β:=match b,xs,ts with
 | .append,[x,y],[T,T']=>bif Nat.beq T T' then LU E T (ρ x) (ρ y) h K else none
 | .len,[x],[T]=>KH E T (ρ x) h K
 | .min,[x,y],_=>Mc false (ρ x) (ρ y) h K
 | .max,[x,y],_=>Mc true (ρ x) (ρ y) h K
 | .copy,[x,y],[T,_]=>Eo E T (ρ x) (ρ y) h K
 | .clear,[x],[T]=>LJ E T (ρ x) h K
 | .delete,[x,y],T::_=>C2 E T (ρ x) (ρ y) h K
 | _,_,_=>none
theorem Hu (hE:bW P E) {b:Builtin} {xs:Array Operand} {ts:Array TypeId} (ho:o.op = .call { callee:=.builtin b,args:=xs,argTypes:=ts }) (hr:LQ E b xs.toList ts.toList ρ h K=some r):Out P o ρ h K r:=by
 obtain ⟨xs⟩:=xs
 obtain ⟨ts⟩:=ts
 simp only at hr
 unfold LQ at hr
 split at hr
 ·obtain ⟨hT,hk⟩:=ah hr
  clear hr
  obtain rfl:=beq_eq hT
  exact Hy hE ho hk
 ·exact Gz hE ho hr
 ·exact Gu ho hr
 ·exact Gv ho hr
 ·exact Em hE ho hr
 ·exact Ho hE ho hr
 ·exact C1 hE ho rfl hr
 ·cases hr
theorem Bu.Zu {P:Program} {Qu:Op} {ρ:Operand→A} {S S':Hp} {v:A} (hd:∀c,o.op≠.defer c) (mZ:∀c,Qu≠.defer c) (hs:∀x∈Qu.operands,x∈o.op.operands) (he:∀(g:G) (a:Act),(∀x∈o.op.operands,V g (ρ x) (a.eval x))→execOp a.eval o=execOp a.eval { o with op:=Qu }) (h:Bu P { o with op:=Qu } ρ S S' v):Bu P o ρ S S' v:=by
 intro r g w a next Q hI hv K
 have h1:=h r g w a next Q hI (fun x hx=>hv x (hs x hx)) K
 refine ⟨fun f _=>trivial,?_⟩
 have h2:=h1.2
 rw [Oper.semAt_eq _ _ _ mZ] at h2
 rw [Oper.semAt_eq _ _ _ hd,he g a hv]
 exact h2
def KL (E:Env) (T:Nat) (X:Ref) (z:Nat) (lo hi mx:Option A) (h:H) (K:A→H→Fp→Option β):Option β:=match cz E.dN T with
 | some ⟨.slice el,_,_,_,_,_,_⟩=>match cz E.dN el with
  | some e=>jb h X (fun t x=>bif Nat.beq z e.size && Nat.beq z t.size && Nat.blt 0 z then Bq lo 0 (fun l=>Bq hi 0 (fun n=>Bq mx 0 (fun m=>gd (bz l n) (gd (bz n m) (gd (bz m (len x)) (K .cI h (.rd [iE X]))))))) else none)
  | none=>none
 | _=>none
theorem GF (hE:bW P E) {T:Nat} {X:Ref} {z:Nat} {x lo hi mx:Operand} (ho:o.op = .slice T x (some lo) (some hi) (some mx)) (hx:ρ x = .tw X z) (hr:KL E T X z (some (ρ lo)) (some (ρ hi)) (some (ρ mx)) h K=some r):Out P o ρ h K r:=by
 have hd:∀c,o.op≠.defer c:=by rw [ho];intro c e;cases e
 unfold KL at hr
 split at hr
 ·rename_i el _ _ _ _ _ _ ht
  have hT:=(hE.dN _ _ ht).u
  split at hr
  ·rename_i e he
   have hz:=(hE.dN _ _ he).ti.size
   obtain ⟨t,x',hr,hX,eY⟩:=eO hr
   obtain ⟨hq,hr⟩:=ah hr
   simp only [zC] at hq
   have Uy:=beq_eq hq.1.1
   have GN:=beq_eq hq.1.2
   have h0:=a_ hq.2
   obtain ⟨l,hr,ue⟩:=j7 (x:=some lo) hr
   obtain ⟨n,hr,uf⟩:=j7 (x:=some hi) hr
   obtain ⟨m,hr,UC⟩:=j7 (x:=some mx) hr
   obtain ⟨h1,hr⟩:=bA hr
   obtain ⟨h2,hr⟩:=bA hr
   obtain ⟨h3,hr⟩:=bA hr
   have h1:l≤n:=h1
   have h2:n≤m:=h2
   have h3:m≤x'.length:=h3
   refine .read [iE X] hr (fun S2 hA=>qR ho hT hz ue uf UC h1 h2 (fun g w v hI hv=>?_)) hd
   have dX:=(hA _ (bI hX (.head _))).1.trans eY
   rw [hx,GN] at hv
   obtain ⟨ad,cap,k1,k2,_,_⟩:=hv.IC (lo:=l) (hi:=n) hI (by omega) dX h1 (by omega)
   exact ⟨ad,_,cap,k1,by omega,.cI _⟩
  ·cases hr
 ·cases hr
def QM:A→Bool
 | .tw _ _=>true
 | _=>false
def J4 (E:Env) (T:Nat) (px:A) (lo hi mx:Option A) (same:Bool) (h:H) (K:A→H→Fp→Option β):Option β:=bif same then B6 E T px lo hi mx true h K else bif QM px && lo.isSome && mx.isSome && hi.isSome then (match px with
 | .tw X z=>KL E T X z lo hi mx h K
 | _=>none) else (match mx,hi with
 | some (.v (.int k m)),some (.v (.int k' n))=>if k=k' then gd (GJ m n) (B6 E T px lo hi hi true h K) else none
 | mx,hi=>B6 E T px lo hi mx false h K)
theorem FB (hE:bW P E) {T:Nat} {x:Operand} {lo hi mx:Option Operand} (ho:o.op = .slice T x lo hi mx) (hr:J4 E T (ρ x) (lo.map ρ) (hi.map ρ) (mx.map ρ) (uY mx hi) h K=some r):Out P o ρ h K r:=by
 unfold J4 at hr
 cases hb:uY mx hi with
 | true=>rw [hb] at hr;exact tm hE ho (fun _=>Cb hb) hr
 | false=>
  rw [hb] at hr
  simp only [cond_false] at hr
  cases ht:(QM (ρ x) && (lo.map ρ).isSome && (mx.map ρ).isSome && (hi.map ρ).isSome) with
  | true=>
   rw [ht] at hr
   simp only [cond_true] at hr
   simp only [zC] at ht
   obtain ⟨lo',rfl⟩:=isSome_map ht.1.1.2
   obtain ⟨mx',rfl⟩:=isSome_map ht.1.2
   obtain ⟨Jy,rfl⟩:=isSome_map ht.2
   split at hr
   ·rename_i X z hx
    exact GF hE ho hx hr
   ·cases hr
  | false=>
  rw [ht] at hr
  simp only [cond_false] at hr
  split at hr
  ·rename_i k m k' n hm hn
   split at hr
   ·rename_i hk
    subst hk
    obtain ⟨he,KU⟩:=bA hr
    clear hr
    have he:m=n:=he
    subst he
    cases hi with
    | none=>cases hn
    | some hi=>
    cases mx with
    | none=>cases hm
    | some mx=>
    have hn:ρ hi = .v (.int k m):=Option.some.inj hn
    have hm:ρ mx = .v (.int k m):=Option.some.inj hm
    obtain ⟨pv,h',T',k1,k2⟩:=tm (o:={ o with op:=.slice T x lo (some hi) (some hi) }) hE rfl (fun _=>rfl) KU
    refine ⟨pv,h',T',k1,k2.out,k2.rd,fun S2 hA=>Bu.Zu (Qu:=.slice T x lo (some hi) (some hi)) (by rw [ho];intro c e;cases e) (fun c e=>by cases e) (fun y hy=>?_) (fun g a hv=>?_) (k2.ok S2 hA)⟩
    ·rw [ho]
     simp only [Op.operands,Array.mem_append] at hy ⊢
     rcases hy with (hy | hy) | hy
     ·exact .inl (.inl hy)
     ·exact .inl (.inr hy)
     ·exact .inl (.inr hy)
    ·have e1:=hv mx (by rw [ho];simp [Op.operands])
     have e2:=hv hi (by rw [ho];simp [Op.operands])
     rw [hm] at e1
     rw [hn] at e2
     have e3:=e1.gf.trans e2.gf.symm
     simp only [execOp,ho,Option.map_some,e3]
   ·cases hr
  ·exact tm hE ho (fun h=>by cases h) hr
def V7 (E:Env) (cx:Cx) (op:Op) (ρ:Operand→A) (h:H) (K:A→H→Fp→Option β):Option β:=match op with
 | .move x=>mvK (ρ x) h K
 | .assign x=>mvK (ρ x) h K
 | .pick c x y=>CF (ρ c) (ρ x) (ρ y) h K
 | .extract x i=>Lk (ρ x) i h K
 | .binOp op T x y _=>Ll E op T (ρ x) (ρ y) h K
 | .unOp op _ x=>UX op (ρ x) h K
 | .convert s d x=>Y3 E s d (ρ x) h K
 | .nilCheck x=>Qy (ρ x) h K
 | .fieldAddr T x f=>Ld E T f (ρ x) h K
 | .field T x f=>Xv E T f (ρ x) h K
 | .indexAddr T x y=>Wk E T (ρ x) y (ρ y) h K
 | .load T x=>KJ E T (ρ x) h K
 | .store T x y=>VU E T (ρ x) (ρ y) h K
 | .alloc T=>LV E cx.hm T h K
 | .box T x=>LN E cx.hm T (ρ x) h K
 | .build T ps=>LR E T ρ ps.toList h K
 | .buildSlice T n ps=>LO E T n ρ ps.toList h K
 | .makeSlice T x y=>Wc E T (yh x y) (ρ x) h K
 | .slice T x lo hi mx=>J4 E T (ρ x) (lo.map ρ) (hi.map ρ) (mx.map ρ) (uY mx hi) h K
 | .makeFunc (.func f) fi ca=>QC f (fi.toList.map ρ) (ca.toList.map ρ) h K
 | .makeMap _ none=>QB h K
 | .lookup T x y ok=>KG E T ok (ρ x) (ρ y) h K
 | .mapUpdate T x y z=>yA E T false (Ui y z) (ρ x) (ρ y) (ρ z) h K
 | .insert T x y z=>yA E T true (Ui y z) (ρ x) (ρ y) (ρ z) h K
 | .call c=>match c.callee with
  | .value x=>Eu cx (ρ x) (c.args.toList.map ρ) h K
  | .builtin b=>LQ E b c.args.toList c.argTypes.toList ρ h K
  | _=>none
 | _=>none
theorem Kz (hE:bW P E) {cx:Cx} (hx:ld P cx) (hr:V7 E cx o.op ρ h K=some r):Out P o ρ h K r:=by
 generalize ho:o.op=op at hr
 have nd:∀{op:Op},o.op=op→(∀c,op≠.defer c)→∀c,o.op≠.defer c:=fun e k=>by rw [e];exact k
 unfold V7 at hr
 split at hr
 ·exact .pure hr (fun S2=>vt ho) (nd ho (fun c e=>by cases e))
 ·exact .pure hr (fun S2=>xc ho) (nd ho (fun c e=>by cases e))
 ·exact CE ho hr
 ·exact He ho hr
 ·exact Hf hE ho hr
 ·exact J0 ho hr
 ·exact Lx hE ho hr
 ·exact Gq ho hr
 ·exact G6 hE ho hr
 ·exact K_ hE ho hr
 ·exact KM hE ho hr
 ·exact KI hE ho hr
 ·exact J3 hE ho hr
 ·exact HB hE ho hr
 ·exact Hr ho hr
 ·exact Hv hE ho hr
 ·exact Hs hE ho hr
 ·exact KD hE ho uX hr
 ·exact FB hE ho hr
 ·exact Gx ho hr
 ·exact Gw ho hr
 ·exact Gy hE ho hr
 ·exact vF hE CX (.inl ⟨rfl,ho⟩) hr
 ·exact vF hE CX (.inr ⟨rfl,ho⟩) hr
 ·rename_i c
  obtain ⟨cal,xs,ts⟩:=c
  simp only at hr
  split at hr
  ·exact Et hx ho hr
  ·exact Hu hE ho hr
  ·cases hr
 ·cases hr
end
end
section
open Go.RowKit
def Fp.cat (T U:Fp):Fp:=⟨T.all || U.all,T.rs++U.rs,T.w || U.w,T.ws++U.ws⟩
theorem iD (T U:Fp) (i:Nat):aG (T.cat U) i=(aG T i || aG U i):=by
 unfold aG Fp.cat
 simp only [List.any_append]
 cases T.all<;>cases U.all<;>cases T.rs.any (Nat.beq (res i))<;>cases U.rs.any (Nat.beq (res i))<;>rfl
theorem qq {T U:Fp} {i:Nat} (h:wt (T.cat U) i=false):wt T i=false∧wt U i=false:=by
 have h:((T.w || U.w) && (T.ws++U.ws).any (Nat.beq (res i)))=false:=h
 show (T.w && T.ws.any (Nat.beq (res i)))=false∧(U.w && U.ws.any (Nat.beq (res i)))=false
 rw [List.any_append] at h
 generalize T.ws.any (Nat.beq (res i))=a at h ⊢
 generalize U.ws.any (Nat.beq (res i))=b at h ⊢
 generalize T.w=c at h ⊢
 generalize U.w=d at h ⊢
 revert h
 cases a<;>cases b<;>cases c<;>cases d<;>decide
theorem Fp.jK (T U V:Fp):(T.cat U).cat V=T.cat (U.cat V):=by
 unfold Fp.cat
 simp [Bool.or_assoc]
theorem Fp.pf (T:Fp):Fp.no.cat T=T:=by cases T;rfl
theorem Fp.rD (T:Fp):T.cat .no=T:=by cases T;simp [Fp.cat,Fp.no]
structure nM (h h':H) (T:Fp):Prop where
 out:∀i,aG T i=false→(hp h').ob i=(hp h).ob i∧((hp h').fr i↔(hp h).fr i)
 rd:∀i,wt T i=false→(hp h').ob i=(hp h).ob i∧((hp h').fr i↔(hp h).fr i)
theorem nM.refl (h:H):nM h h .no:=⟨fun _ _=>⟨rfl,Iff.rfl⟩,fun _ _=>⟨rfl,Iff.rfl⟩⟩
theorem nM.trans {h h1 h2:H} {T U:Fp} (a:nM h h1 T) (b:nM h1 h2 U):nM h h2 (T.cat U) where
 out:=fun i hi=>by
  rw [iD,Bool.or_eq_false_iff] at hi
  have e1:=a.out i hi.1
  have e2:=b.out i hi.2
  exact ⟨e2.1.trans e1.1,e2.2.trans e1.2⟩
 rd:=fun i hi=>by
  obtain ⟨h1,h2⟩:=qq hi
  have e1:=a.rd i h1
  have e2:=b.rd i h2
  exact ⟨e2.1.trans e1.1,e2.2.trans e1.2⟩
theorem Agree.left {T U:Fp} {S S2:Hp} (h:Agree (T.cat U) S S2):Agree T S S2:=fun i hi=>h i (by rw [iD,hi];rfl)
theorem Agree.right {h h1:H} {T U:Fp} {S2:Hp} (f:nM h h1 T) (k:Agree (T.cat U) (hp h) S2):Agree U (hp h1) (iS T (hp h1) S2):=fun i hi=>by
 show (if aG T i=true then (hp h1).ob i else S2.ob i)=(hp h1).ob i∧((if aG T i=true then (hp h1).fr i else S2.fr i)↔(hp h1).fr i)
 cases ht:aG T i with
 | true=>exact ⟨if_pos rfl,by rw [if_pos rfl]⟩
 | false=>
  have e:=f.out i ht
  have k:=k i (by rw [iD,hi];simp)
  rw [if_neg (by simp),if_neg (by simp)]
  exact ⟨k.1.trans e.1.symm,k.2.trans e.2.symm⟩
theorem gV {h1 h2:H} {T U:Fp} {S2:Hp} (f:nM h1 h2 U):iS U (hp h2) (iS T (hp h1) S2)=iS (T.cat U) (hp h2) S2:=by
 refine Hp.ext' (fun i=>?_) (fun i=>?_)
 ·show (if aG U i=true then (hp h2).ob i else (if aG T i=true then (hp h1).ob i else S2.ob i))=(if aG (T.cat U) i=true then (hp h2).ob i else S2.ob i)
  rw [iD]
  cases hu:aG U i with
  | true=>simp
  | false=>
   cases ht:aG T i with
   | true=>simp [(f.out i hu).1]
   | false=>simp
 ·show (if aG U i=true then (hp h2).fr i else (if aG T i=true then (hp h1).fr i else S2.fr i))↔(if aG (T.cat U) i=true then (hp h2).fr i else S2.fr i)
  rw [iD]
  cases hu:aG U i with
  | true=>simp
  | false=>
   cases ht:aG T i with
   | true=>simp [(f.out i hu).2]
   | false=>simp
theorem qd {h h':H} {T:Fp} (f:nM h h' T):iS T (hp h') (hp h)=hp h':=Hp.ext' (fun i=>by
 show (if aG T i=true then _ else _)=_
 split
 ·rfl
 ·rename_i hi;exact (f.out i (by simpa using hi)).1.symm) (fun i=>by
 show (if aG T i=true then _ else _)↔_
 split
 ·exact Iff.rfl
 ·rename_i hi;exact (f.out i (by simpa using hi)).2.symm)
theorem qQ (S S2:Hp):iS .no S S2=S2:=Hp.ext' (fun i=>rfl) (fun i=>Iff.rfl)
def fH (n:Nat) (F:Tr A) (ds:List Nat) (S:Hp):St:=⟨bf F.get,n,ds,S⟩
def yw (n:Nat) (F:Tr A):Operand→A
 | .tmp i=>bif Nat.blt i n then bf F.get i else .cI
 | .const v=>.v v
 | .global _=>.cI
 | .func f=>.fn f [] []
theorem xg {a b:Nat} (h:a<b):Nat.blt a b=true:=by simpa using h
theorem tP {a b:Nat} (h:¬a<b):Nat.blt a b=false:=by
 cases hx:Nat.blt a b with
 | false=>rfl
 | true=>exact absurd (a_ hx) h
theorem pb (n:Nat) (F:Tr A) (ds:List Nat) (S:Hp):yw n F=(fH n F ds S).uO 0:=by
 funext x
 cases x with
 | tmp i=>
  show (bif Nat.blt i n then bf F.get i else .cI)=(if i<n then bf F.get i else .cI)
  by_cases h:i<n
  ·rw [if_pos h,xg h];rfl
  ·rw [if_neg h,tP h];rfl
 | _=>rfl
def YL {β:Type} (v:Value) (k:Value→β):β:=match v with
 | .int a n=>k (.int a n)
 | .bool b=>k (.bool b)
 | v=>k v
theorem Li {β:Type} (v:Value) (k:Value→β):YL v k=k v:=by unfold YL;split<;>rfl
def UL {β:Type} (p:A) (k:A→β):β:=match p with
 | .v x=>YL x (fun x=>k (.v x))
 | .ptr o off=>k (.ptr o off)
 | .tp x π=>k (.tp x π)
 | .tw x z=>k (.tw x z)
 | .tl t f l=>k (.tl t f l)
 | .op r o=>k (.op r o)
 | p=>k p
theorem D5 {β:Type} (p:A) (k:A→β):UL p k=k p:=by unfold UL;split<;>first | exact Li _ _ | rfl
def Lj {β:Type}:List A→(List A→β)→β
 | [],k=>k []
 | c::cs,k=>UL c (fun c=>Lj cs (fun cs=>k (c::cs)))
theorem rp {β:Type}:∀(l:List A) (k:List A→β),Lj l k=k l
 | [],_=>rfl
 | c::cs,k=>by unfold Lj;rw [D5];exact rp cs _
def Ms {β:Type} (p:A) (k:A→β):β:=match p with
 | .agg cs=>Lj cs (fun cs=>k (.agg cs))
 | .jt cs=>Lj cs (fun cs=>k (.jt cs))
 | .fn f fi ca=>Lj fi (fun fi=>Lj ca (fun ca=>k (.fn f fi ca)))
 | p=>UL p k
theorem xI {β:Type} (p:A) (k:A→β):Ms p k=k p:=by
 unfold Ms
 split
 ·exact rp _ _
 ·exact rp _ _
 ·rw [rp,rp]
 ·exact D5 _ _
def tF {β:Type} (F:Tr A) (d:Option Nat) (p:A) (k:Tr A→Option β):Option β:=match d with
 | none=>k F
 | some d=>Ms p (fun p=>ff F d (some p) k)
def Kp (l:List Nat) (F F':Tr A):Prop:=∀i,i∉l→bf F'.get i=bf F.get i
theorem Kp.refl (l:List Nat) (F:Tr A):Kp l F F:=fun _ _=>rfl
theorem Kp.trans {l k m:List Nat} {F F1 F2:Tr A} (a:Kp l F F1) (b:Kp k F1 F2) (hl:∀i∈l,i∈m) (hk:∀i∈k,i∈m):Kp m F F2:=fun i hi=>(b i (fun h=>hi (hk i h))).trans (a i (fun h=>hi (hl i h)))
theorem Kp.mono {l m:List Nat} {F F1:Tr A} (a:Kp l F F1) (hl:∀i∈l,i∈m):Kp m F F1:=fun i hi=>a i (fun h=>hi (hl i h))
theorem Kp.of {l:List Nat} {n:Nat} {F F':Tr A} (h:∀ds S,fH n F' ds S=fH n F ds S):Kp l F F':=fun i _=>congrFun (congrArg St.t (h [] ⟨fun _=>none,fun _=>False⟩)) i
theorem qb {β:Type} {F:Tr A} {d:Option Nat} {p:A} {k:Tr A→Option β} {r:β} (h:tF F d p k=some r):∃F',k F'=some r∧Kp d.toList F F'∧∀(n:Nat) (ds:List Nat) (S S':Hp),((fH n F ds S).put d p).to S'=fH n F' ds S':=by
 cases d with
 | none=>exact ⟨F,h,.refl _ F,fun n ds S S'=>rfl⟩
 | some d=>
  have h:Ms p (fun p=>ff F d (some p) k)=some r:=h
  rw [xI] at h
  obtain ⟨_,F',k1,k2⟩:=bt h
  refine ⟨F',k1,fun i hi=>by
   simp only [bf,k2]
   rw [if_neg (fun e=>hi (by rw [e];exact .head _))],fun n ds S S'=>?_⟩
  have e:(fun i=>if i=d then p else bf F.get i)=bf F'.get:=by
   funext i
   simp only [bf,k2]
   by_cases hi:i=d
   ·rw [if_pos hi,if_pos hi]
   ·rw [if_neg hi,if_neg hi]
  simp only [St.put,St.to,fH,e]
def G2 {β:Type} (l0:List Oper) (n:Nat) (F:Tr A) (j:Nat) (want:Bool) (k:Tr A→Bool→Option β):Option β:=match (l0[j]?).bind (·.dst) with
 | some d=>match yw n F (.tmp d) with
  | .v (.bool b)=>br b (ff F d (some (.v (.bool true))) (fun F'=>k F' want)) (ff F d (some (.v (.bool false))) (fun F'=>k F' (!want)))
  | .un=>k F false
  | _=>none
 | none=>none
theorem yv {n:Nat} {F:Tr A} {d:Nat} {p:A} (h:yw n F (.tmp d)=p) (hp:p≠.cI):bf F.get d=p:=by
 have h:(bif Nat.blt d n then bf F.get d else .cI)=p:=h
 cases hb:Nat.blt d n with
 | true=>rw [hb] at h;exact h
 | false=>rw [hb] at h;exact absurd h.symm hp
theorem yV {β:Type} {l0:List Oper} {n:Nat} {F:Tr A} {j:Nat} {want:Bool} {k:Tr A→Bool→Option β} {r:β} (h:G2 l0 n F j want k=some r):∃F' b,k F' b=some r∧(∀ds S,fH n F' ds S=fH n F ds S)∧∀ds S,mh l0.toArray (fH n F ds S) j want=some b:=by
 unfold G2 at h
 split at h
 ·rename_i d hd
  have gv:∀(b:Bool) (ds:List Nat) (S:Hp),((match yw n F (.tmp d) with | .v (.bool b)=>some (b == want) | .un=>some false | _=>none):Option Bool)=some b→mh l0.toArray (fH n F ds S) j want=some b:=fun b ds S hb=>by
   unfold mh
   rw [List.getElem?_toArray,←pb,hd]
   exact hb
  split at h
  ·rename_i b hb
   have same:∀(F':Tr A) (c:Bool),b=c→F'.get=(fun m=>if m=d then some (.v (.bool c)) else F.get m)→∀ds S,fH n F' ds S=fH n F ds S:=fun F' c hc e ds S=>by
    have:bf F'.get=bf F.get:=by
     funext i
     by_cases hi:i=d
     ·subst hi
      rw [yv hb (by intro h;cases h),hc]
      unfold bf
      rw [e];simp
     ·unfold bf
      rw [e];simp [hi]
    unfold fH
    rw [this]
   rcases pB h with ⟨rfl,h1⟩ | ⟨rfl,h1⟩
   ·obtain ⟨_,F',k1,k2⟩:=bt h1
    exact ⟨F',want,k1,same F' true rfl k2,fun ds S=>gv _ ds S (by rw [hb];cases want<;>rfl)⟩
   ·obtain ⟨_,F',k1,k2⟩:=bt h1
    exact ⟨F',!want,k1,same F' false rfl k2,fun ds S=>gv _ ds S (by rw [hb];cases want<;>rfl)⟩
  ·rename_i hb
   exact ⟨F,false,h,fun ds S=>rfl,fun ds S=>gv _ ds S (by rw [hb])⟩
  ·cases h
 ·cases h
def Gm (p:A):A:=match p with
 | .op r (some j)=>.tp (.eF r j) []
 | .op _ none=>.v (.pointer none)
 | .os r z (some j)=>.tw (.eF r j) z
 | .os _ _ none=>.e0
 | .om r (some j)=>.mp (.eF r j)
 | .om _ none=>.v (.map none)
 | p=>p
theorem Gl {p:A} {g:G} {v:Value} (h:V g p v):V g (Gm p) v:=by
 unfold Gm
 split
 ·cases h with | op _ _ _ _ h1=>exact h1 _ rfl
 ·cases h with | op _ _ _ h0 _=>rw [h0 rfl];exact .v _
 ·cases h with | os _ _ _ _ _ h1=>exact h1 _ rfl
 ·cases h with | os _ _ _ _ h0 _=>exact h0 rfl
 ·cases h with | om _ _ _ _ h1=>exact h1 _ rfl
 ·cases h with | om _ _ _ h0 _=>rw [h0 rfl];exact .v _
 ·exact h
def opn (n:Nat) (F:Tr A) (l:List Nat) (x:Operand):A:=match x with
 | .tmp i=>bif l.any (Nat.beq i) then Gm (yw n F (.tmp i)) else yw n F (.tmp i)
 | x=>yw n F x
theorem Kw {n:Nat} {F:Tr A} {l:List Nat} {x:Operand} {g:G} {v:Value} (h:V g (yw n F x) v):V g (opn n F l x) v:=by
 cases x with
 | tmp i=>
  show V g (bif l.any (Nat.beq i) then Gm (yw n F (.tmp i)) else yw n F (.tmp i)) v
  cases l.any (Nat.beq i) with
  | true=>exact Gl h
  | false=>exact h
 | _=>exact h
def qA {β:Type}:List Nat→Tr A→(Tr A→Option β)→Option β
 | [],F,k=>k F
 | i::l,F,k=>match bf F.get i with
  | .op r v=>opt v (ff F i (some (.op r none)) (fun F=>qA l F k)) (fun j=>ff F i (some (.op r (some j))) (fun F=>qA l F k))
  | .os r z v=>opt v (ff F i (some (.os r z none)) (fun F=>qA l F k)) (fun j=>ff F i (some (.os r z (some j))) (fun F=>qA l F k))
  | .om r v=>opt v (ff F i (some (.om r none)) (fun F=>qA l F k)) (fun j=>ff F i (some (.om r (some j))) (fun F=>qA l F k))
  | _=>qA l F k
theorem tj {β:Type} {r:β}:∀(l:List Nat) (F:Tr A) (k:Tr A→Option β),qA l F k=some r→∃F',k F'=some r∧bf F'.get=bf F.get
 | [],F,k,h=>⟨F,h,rfl⟩
 | i::l,F,k,h=>by
  have same:∀(p:A),bf F.get i=p→ff F i (some p) (fun F=>qA l F k)=some r→∃F',k F'=some r∧bf F'.get=bf F.get:=fun p hp h=>by
   obtain ⟨_,F1,k1,k2⟩:=bt h
   obtain ⟨F2,k3,k4⟩:=tj l F1 k k1
   refine ⟨F2,k3,k4.trans ?_⟩
   funext m
   unfold bf at hp ⊢
   rw [k2]
   by_cases hm:m=i
   ·subst hm;simp only [if_true];exact hp.symm
   ·simp only [if_neg hm]
  unfold qA at h
  split at h
  ·rename_i q v hq
   rcases ic h with ⟨e,h1⟩ | ⟨j,e,h1⟩
   ·exact same _ (by rw [hq,e]) h1
   ·exact same _ (by rw [hq,e]) h1
  ·rename_i q z v hq
   rcases ic h with ⟨e,h1⟩ | ⟨j,e,h1⟩
   ·exact same _ (by rw [hq,e]) h1
   ·exact same _ (by rw [hq,e]) h1
  ·rename_i q v hq
   rcases ic h with ⟨e,h1⟩ | ⟨j,e,h1⟩
   ·exact same _ (by rw [hq,e]) h1
   ·exact same _ (by rw [hq,e]) h1
  ·exact tj l F k h
def rR (x:Operand):List Nat:=match x with
 | .tmp i=>[i]
 | _=>[]
def Pp (op:Op):List Nat:=match op with
 | .fieldAddr _ x _=>rR x
 | .indexAddr _ x _=>rR x
 | .load _ x=>rR x
 | .store _ x _=>rR x
 | .slice _ x _ _ _=>rR x
 | .lookup _ x _ _=>rR x
 | .mapUpdate _ x _ _=>rR x
 | .insert _ x _ _=>rR x
 | .nilCheck x=>rR x
 | .call c=>match c.callee with
  | .builtin _=>c.args.toList.flatMap rR
  | _=>[]
 | _=>[]
section
variable {P:Program} {E:Env} {cx:Cx} {n:Nat} {β:Type} {r:β}
def Kx (E:Env) (cx:Cx) (n:Nat) (op:Op) (F:Tr A) (h:H) (K:Tr A→A→H→Fp→Option β):Option β:=
 qA (Pp op) F (fun F'=>V7 E cx op (opn n F' (Pp op)) h (fun pv h' T=>K F' pv h' T))
theorem CN (hE:bW P E) (hx:ld P cx) {o:Oper} {F:Tr A} {h:H} {K:Tr A→A→H→Fp→Option β} (hr:Kx E cx n o.op F h K=some r) :
  ∃F',(∀ds S,fH n F' ds S=fH n F ds S)∧∃pv h' T,K F' pv h' T=some r∧Step P o (yw n F') h h' T pv:=by
 obtain ⟨F',h1,h2⟩:=tj _ _ _ hr
 obtain ⟨pv,h',T,k1,k2⟩:=Kz hE hx h1
 refine ⟨F',fun ds S=>by unfold fH;rw [h2],pv,h',T,k1,k2.out,k2.rd,fun S2 hA r g w a next Q hI hv=>k2.ok S2 hA r g w a next Q hI (fun x hx=>Kw (hv x hx))⟩
def pY (l:List Oper):List Nat:=l.flatMap fun o=>o.dst.toList
def ve (E:Env) (cx:Cx) (n:Nat) (l0:List Oper):List Oper→Tr A→H→Fp→(Tr A→H→Fp→Option β)→Option β
 | [],F,h,U,K=>K F h U
 | o::l,F,h,U,K=>match o.guard with
  | none=>Kx E cx n o.op F h (fun F pv h' T=>tF F o.dst pv (fun F'=>ve E cx n l0 l F' h' (U.cat T) K))
  | some (j,want)=>G2 l0 n F j want (fun F b=>bif b then Kx E cx n o.op F h (fun F pv h' T=>tF F o.dst pv (fun F'=>ve E cx n l0 l F' h' (U.cat T) K)) else tF F o.dst .un (fun F'=>ve E cx n l0 l F' h U K))
def ES (F:Tr A) (h:H) (F':Tr A) (h':H) (n:Nat) (T:Fp) (W:(Exit→St→Prop)→St→Prop) (e:Exit) (ds iW:List Nat):Prop:=
 ∀S2,Agree T (hp h) S2→∀Q:Exit→St→Prop,Q e (fH n F' iW (iS T (hp h') S2))→W Q (fH n F ds S2)
theorem tu (hE:bW P E) (hx:ld P cx) {l0:List Oper}:∀(l:List Oper) (F:Tr A) (h:H) (U:Fp) (K:Tr A→H→Fp→Option β),ve E cx n l0 l F h U K=some r →
  ∃F' h' T,K F' h' (U.cat T)=some r∧Kp (pY l) F F'∧nM h h' T∧∀ro S0 g0 w0 ds,ES F h F' h' n T (fun Q st=>Cr P ro S0 g0 w0 l0.toArray Q l st) .normal ds ds
 | [],F,h,U,K,hr=>⟨F,h,.no,by rw [Fp.rD];exact hr,.refl _ F,.refl h,fun ro S0 g0 w0 ds S2 hA Q hq=>by
   rw [qQ] at hq;exact FL hq⟩
 | o::l,F,h,U,K,hr=>by
  have yes:∀(F:Tr A),Kx E cx n o.op F h (fun F pv h' T=>tF F o.dst pv (fun F'=>ve E cx n l0 l F' h' (U.cat T) K))=some r →
    (∀ds S,o.guard=none∨∃j want,o.guard=some (j,want)∧mh l0.toArray (fH n F ds S) j want=some true) →
    ∃F' h' T,K F' h' (U.cat T)=some r∧Kp (pY (o::l)) F F'∧nM h h' T∧∀ro S0 g0 w0 ds,ES F h F' h' n T (fun Q st=>Cr P ro S0 g0 w0 l0.toArray Q (o::l) st) .normal ds ds:=fun F hr hg=>by
   obtain ⟨F0,e0,pv,h1,T1,k1,k2⟩:=CN hE hx hr
   obtain ⟨F1,k3,KK,k4⟩:=qb k1
   obtain ⟨F2,h2,T2,k5,Wf,k6,k7⟩:=tu hE hx l F1 h1 (U.cat T1) K k3
   have f1:nM h h1 T1:=⟨k2.out,k2.rd⟩
   have hg:∀ds S,o.guard=none∨∃j want,o.guard=some (j,want)∧mh l0.toArray (fH n F0 ds S) j want=some true:=fun ds S=>by rw [e0];exact hg ds S
   refine ⟨F2,h2,T1.cat T2,by rw [←Fp.jK];exact k5,(Kp.of (l:=[]) e0).trans (m:=pY (o::l)) (KK.trans Wf (fun i hi=>zQ _ hi) (fun i hi=>zS _ hi)) (fun i hi=>by cases hi) (fun i hi=>hi),f1.trans k6,fun ro S0 g0 w0 ds S2 hA Q hq=>?_⟩
   rw [←e0]
   have mf:Bu P o ((fH n F0 ds S2).uO 0) (fH n F0 ds S2).S (iS T1 (hp h1) S2) pv:=by rw [←pb];exact k2.ok S2 hA.left
   have q7:Cr P ro S0 g0 w0 l0.toArray Q l (((fH n F0 ds S2).put o.dst pv).to (iS T1 (hp h1) S2)):=by
    rw [k4]
    refine k7 ro S0 g0 w0 ds _ (Agree.right f1 hA) Q ?_
    rw [gV k6];exact hq
   rcases hg ds S2 with hg | ⟨j,want,hg,hv⟩
   ·exact vj 0 hg mf q7
   ·exact tx 0 hg hv mf q7
  unfold ve at hr
  split at hr
  ·rename_i hg
   exact yes F hr (fun _ _=>.inl hg)
  ·rename_i j want hg
   obtain ⟨F1,b,k1,k2,k3⟩:=yV hr
   cases b with
   | true=>
    simp only [cond_true] at k1
    obtain ⟨F',h',T,q1,qp,q2,q3⟩:=yes F1 k1 (fun ds S=>.inr ⟨j,want,hg,by rw [k2];exact k3 ds S⟩)
    refine ⟨F',h',T,q1,(Kp.of (l:=[]) k2).trans qp (fun i hi=>by cases hi) (fun i hi=>hi),q2,fun ro S0 g0 w0 ds S2 hA Q hq=>?_⟩
    rw [←k2]
    exact q3 ro S0 g0 w0 ds S2 hA Q hq
   | false=>
    simp only [cond_false] at k1
    obtain ⟨F2,k4,KK,k5⟩:=qb k1
    obtain ⟨F',h',T,q1,qp,q2,q3⟩:=tu hE hx l F2 h U K k4
    refine ⟨F',h',T,q1,(Kp.of (l:=[]) k2).trans (m:=pY (o::l)) (KK.trans qp (fun i hi=>zQ _ hi) (fun i hi=>zS _ hi)) (fun i hi=>by cases hi) (fun i hi=>hi),q2,fun ro S0 g0 w0 ds S2 hA Q hq=>?_⟩
    have:=q3 ro S0 g0 w0 ds S2 hA Q hq
    rw [←k5 n ds S2 S2] at this
    rw [←k2]
    refine vi hg (by rw [k2];exact k3 ds S2) ?_
    rw [←tB (st:=fH n F1 ds S2)]
    exact this
end
end
section
open Go.RowKit
def iy (kp:Nat→Bool) (i:Nat):Bool:=!(Nat.blt i 16777216) && kp (lT i)
def G.kR (kp:Nat→Bool) (g:G):G:=⟨fun i=>if iy kp i=true then g.bm i else none,g.mem,g.lp⟩
theorem tW (kp:Nat→Bool) (g:G):Le (g.kR kp) g:=⟨fun o p h=>(by
 have h:(if iy kp o=true then g.bm o else none)=some p:=h
 split at h
 ·exact h
 ·cases h),fun _ _ _ h=>h,fun _ _ h=>h⟩
theorem jv {kp:Nat→Bool} {g:G} {i:Nat} (h:iy kp i=true):(g.kR kp).bm i=g.bm i:=if_pos h
theorem Db {kp:Nat→Bool} {g:G} {i:Nat} (h:iy kp i=false):(g.kR kp).bm i=none:=if_neg (by rw [h];simp)
def VK (kp:Nat→Bool) (c:A):Prop:=∀g v,V g c v→V (g.kR kp) c v
def My (kp:Nat→Bool):Ob→Prop
 | .cells cs=>∀c∈cs,VK kp c
 | .cN (.map es)=>∀e∈es,VK kp e.1∧VK kp e.2
 | .cN _=>False
def G.join (kp:Nat→Bool) (g0 g:G):G:=⟨fun i=>if iy kp i=true then g0.bm i else g.bm i,g0.mem,g0.lp⟩
theorem AO (kp:Nat→Bool) (g0 g:G):(G.join kp g0 g).kR kp=g0.kR kp:=by
 unfold G.join G.kR
 congr 1
 funext i
 by_cases h:iy kp i=true
 ·simp only [if_pos h]
 ·simp only [if_neg h]
theorem VK.join {kp:Nat→Bool} {c:A} (h:VK kp c) {g0 g:G} {v:Value} (hv:V g0 c v):V (G.join kp g0 g) c v:=by
 have:=h g0 v hv
 rw [←AO kp g0 g] at this
 exact this.mono (tW kp _)
def Hp.join (kp:Nat→Bool) (S0 S:Hp):Hp:=⟨fun i=>if iy kp i=true then S0.ob i else S.ob i,fun i=>if iy kp i=true then S0.fr i else S.fr i⟩
theorem mD.conv {g g':G} {w w':World} {b t:Nat} {cs:List A} (h:mD g w b t cs) (hw:w'.heap[b]?=w.heap[b]?) (hc:∀c∈cs,∀v,V g c v→V g' c v):mD g' w' b t cs:=by
 obtain ⟨cur,ty,k2,oU,k3⟩:=h
 exact ⟨cur,ty,hw.trans k2,oU,k3.1,fun j c x e1 e2=>⟨hc c (zG e1) _ (k3.2 j c x e1 e2).1,(k3.2 j c x e1 e2).2⟩⟩
theorem DV {kp:Nat→Bool} {g:G} {S S0:Hp} {w:World} (hI:Inv g S w) (h0:∀i,iy kp i=false→S0.ob i=none) (h1:∀i,iy kp i=true→S.ob i=S0.ob i∧(S.fr i↔S0.fr i)) (hk:∀i x,S0.ob i=some x→My kp x):Inv (g.kR kp) S0 w:=by
 have kn:∀{i x},S0.ob i=some x→iy kp i=true∧S.ob i=some x:=fun {i x} h=>by
  cases g8:iy kp i with
  | false=>rw [h0 i g8] at h;cases h
  | true=>exact ⟨rfl,(h1 i g8).1.trans h⟩
 have sub:=(tW kp g).bm
 refine ⟨fun o cs h=>?_,fun o x h=>?_,fun o h=>?_,fun o b s h=>hI.lt o b s (sub _ _ h),fun o o' x x' b s s' e1 e2 e3 e4=>hI.inj o o' x x' b s s' (kn e1).2 (kn e2).2 (sub _ _ e3) (sub _ _ e4),hI.mem,fun o b s i x e1 e2=>hI.lr o b s i x (kn e1).2 (sub _ _ e2),hI.lp⟩
 ·obtain ⟨q1,q2⟩:=kn h
  rw [jv q1]
  rcases hI.cells o cs q2 with ⟨k1,k2⟩ | ⟨b,t,k1,k2⟩
  ·exact .inl ⟨k1,k2⟩
  ·exact .inr ⟨b,t,k1,k2.conv rfl (fun c hc v hv=>hk o _ h c hc g v hv)⟩
 ·obtain ⟨q1,q2⟩:=kn h
  obtain ⟨b,s,ob,k1,k2,k3⟩:=hI.cN o x q2
  refine ⟨b,s,ob,by rw [jv q1];exact k1,k2,?_⟩
  have hx:=hk o _ h
  cases x with
  | map es=>
   obtain ⟨jg,clock,e1,e2,e3⟩:=k3
   exact ⟨jg,clock,e1,e2,fun i e q a1 a2=>let hq:=hx q (zG a2);⟨hq.1 g _ (e3 i e q a1 a2).1,hq.2 g _ (e3 i e q a1 a2).2⟩⟩
  | _=>exact hx.elim
 ·cases g8:iy kp o with
  | false=>exact Db g8
  | true=>rw [jv g8];exact hI.fresh o ((h1 o g8).2.2 h)
theorem AZ {kp:Nat→Bool} {g DU:G} {S S0 wQ:Hp} {w w':World} (hI:Inv g S w) (h0:∀i,iy kp i=false→S0.ob i=none) (h1:∀i,iy kp i=true→S.ob i=S0.ob i∧(S.fr i↔S0.fr i))
  (hk:∀i x,iy kp i=true→wQ.ob i=some x→My kp x) (Fi:Inv DU wQ w') (x0:Ext S0 (g.kR kp) w wQ DU w') :
  Inv (G.join kp DU g) (Hp.join kp wQ S) w'∧Ext S g w (Hp.join kp wQ S) (G.join kp DU g) w':=by
 have ow:∀{k},pN S0 (g.kR kp) k→∃o s x,iy kp o=true∧S.ob o=some x∧g.bm o=some (some k,s):=fun {k} ⟨o,s,x,e1,e2⟩=>by
  cases g8:iy kp o with
  | false=>rw [h0 o g8] at e1;cases e1
  | true=>exact ⟨o,s,x,g8,(h1 o g8).1.trans e1,(tW kp g).bm _ _ e2⟩
 have Kv:∀{k},pN S0 (g.kR kp) k→pN S g k:=fun {k} h=>by
  obtain ⟨o,s,x,_,e1,e2⟩:=ow h
  exact ⟨o,s,x,e1,e2⟩
 have other:∀{o x b s},iy kp o=false→S.ob o=some x→g.bm o=some (some b,s)→¬pN S0 (g.kR kp) b:=fun {o x b s} hn e1 e2 h=>by
  obtain ⟨o',s',x',k1,k2,k3⟩:=ow h
  have:=hI.inj o o' x x' b s s' e1 k2 e2 k3
  rw [this,k1] at hn;cases hn
 have ji:∀{i},iy kp i=true→(G.join kp DU g).bm i=DU.bm i∧(Hp.join kp wQ S).ob i=wQ.ob i∧((Hp.join kp wQ S).fr i↔wQ.fr i):=fun {i} h=>⟨if_pos h,if_pos h,by show (if iy kp i=true then _ else _)↔_;rw [if_pos h]⟩
 have jo:∀{i},iy kp i=false→(G.join kp DU g).bm i=g.bm i∧(Hp.join kp wQ S).ob i=S.ob i∧((Hp.join kp wQ S).fr i↔S.fr i):=fun {i} h=>by
  have h':¬iy kp i=true:=by rw [h];simp
  exact ⟨if_neg h',if_neg h',by show (if iy kp i=true then _ else _)↔_;rw [if_neg h']⟩
 have le:Le g (G.join kp DU g):=⟨fun o p e=>(by
  cases g8:iy kp o with
  | true=>rw [(ji g8).1];exact x0.le.bm o p (by rw [jv g8];exact e)
  | false=>rw [(jo g8).1];exact e),x0.le.mem,x0.le.lp⟩
 have heap:∀{o x b s},iy kp o=false→S.ob o=some x→g.bm o=some (some b,s)→w'.heap[b]?=w.heap[b]?:=fun {o x b s} hn e1 e2=>x0.frame b (hI.lt o b s e2) (other hn e1 e2)
 refine ⟨⟨fun o cs h=>?_,fun o x h=>?_,fun o h=>?_,fun o b s h=>?_,fun o o' x x' b s s' e1 e2 e3 e4=>?_,Fi.mem,fun o b s i x e1 e2=>?_,Fi.lp⟩,⟨le,x0.os,x0.tape,x0.output,x0.size,fun k UF DG=>x0.frame k UF (fun h=>DG (Kv h)),fun k h=>?_,fun o p h=>?_,fun o h=>?_,fun b i x h=>?_,fun b l h=>x0.lpo b l h⟩⟩
 ·cases g8:iy kp o with
  | true=>
   rw [(ji g8).2.1] at h
   rw [(ji g8).1]
   rcases Fi.cells o cs h with ⟨k1,k2⟩ | ⟨b,t,k1,k2⟩
   ·exact .inl ⟨k1,k2⟩
   ·exact .inr ⟨b,t,k1,k2.conv rfl (fun c hc v hv=>(hk o _ g8 h c hc).join hv)⟩
  | false=>
   rw [(jo g8).2.1] at h
   rw [(jo g8).1]
   rcases hI.cells o cs h with ⟨k1,k2⟩ | ⟨b,t,k1,k2⟩
   ·exact .inl ⟨k1,k2⟩
   ·exact .inr ⟨b,t,k1,k2.conv (heap g8 h k1) (fun c hc v hv=>hv.mono le)⟩
 ·cases g8:iy kp o with
  | true=>
   rw [(ji g8).2.1] at h
   rw [(ji g8).1]
   obtain ⟨b,s,ob,k1,k2,k3⟩:=Fi.cN o x h
   refine ⟨b,s,ob,k1,k2,?_⟩
   have hx:=hk o _ g8 h
   cases x with
   | map es=>
    obtain ⟨jg,clock,e1,e2,e3⟩:=k3
    exact ⟨jg,clock,e1,e2,fun i e q a1 a2=>let hq:=hx q (zG a2);⟨hq.1.join (e3 i e q a1 a2).1,hq.2.join (e3 i e q a1 a2).2⟩⟩
   | _=>exact hx.elim
  | false=>
   rw [(jo g8).2.1] at h
   rw [(jo g8).1]
   obtain ⟨b,s,ob,k1,k2,k3⟩:=hI.cN o x h
   exact ⟨b,s,ob,k1,(heap g8 h k1).trans k2,k3.mono le⟩
 ·cases g8:iy kp o with
  | true=>rw [(ji g8).1];exact Fi.fresh o ((ji g8).2.2.1 h)
  | false=>rw [(jo g8).1];exact hI.fresh o ((jo g8).2.2.1 h)
 ·cases g8:iy kp o with
  | true=>rw [(ji g8).1] at h;exact Fi.lt o b s h
  | false=>rw [(jo g8).1] at h;exact Nat.lt_of_lt_of_le (hI.lt o b s h) x0.size
 ·have mixed:∀{o o' x x' b s s'},iy kp o=true→iy kp o'=false→wQ.ob o=some x→S.ob o'=some x'→DU.bm o=some (some b,s)→g.bm o'=some (some b,s')→False:=fun {o o' x x' b s s'} h1 h2 e1 e2 e3 e4=>by
   rcases x0.own b ⟨o,s,x,e1,e3⟩ with h | h
   ·exact other h2 e2 e4 h
   ·have:=hI.lt o' b s' e4;omega
  cases g8:iy kp o with
  | true=>
   rw [(ji g8).2.1] at e1
   rw [(ji g8).1] at e3
   cases rb:iy kp o' with
   | true=>
    rw [(ji rb).2.1] at e2
    rw [(ji rb).1] at e4
    exact Fi.inj o o' x x' b s s' e1 e2 e3 e4
   | false=>
    rw [(jo rb).2.1] at e2
    rw [(jo rb).1] at e4
    exact (mixed g8 rb e1 e2 e3 e4).elim
  | false=>
   rw [(jo g8).2.1] at e1
   rw [(jo g8).1] at e3
   cases rb:iy kp o' with
   | true=>
    rw [(ji rb).2.1] at e2
    rw [(ji rb).1] at e4
    exact (mixed rb g8 e2 e1 e4 e3).elim
   | false=>
    rw [(jo rb).2.1] at e2
    rw [(jo rb).1] at e4
    exact hI.inj o o' x x' b s s' e1 e2 e3 e4
 ·cases g8:iy kp o with
  | true=>
   rw [(ji g8).2.1] at e1
   rw [(ji g8).1] at e2
   exact Fi.lr o b s i x e1 e2
  | false=>
   rw [(jo g8).2.1] at e1
   rw [(jo g8).1] at e2
   show DU.mem b i=none
   cases hm:DU.mem b i with
   | none=>rfl
   | some y=>
    rcases x0.tR b i y hm with h | h | h
    ·have:=hI.lr o b s i x e1 e2
     have h:g.mem b i=some y:=h
     rw [this] at h;cases h
    ·exact absurd h (other g8 e1 e2)
    ·have:=hI.lt o b s e2;omega
 ·obtain ⟨o,s,x,e1,e2⟩:=h
  cases g8:iy kp o with
  | true=>
   rw [(ji g8).2.1] at e1
   rw [(ji g8).1] at e2
   rcases x0.own k ⟨o,s,x,e1,e2⟩ with h | h
   ·exact .inl (Kv h)
   ·exact .inr h
  | false=>
   rw [(jo g8).2.1] at e1
   rw [(jo g8).1] at e2
   exact .inl ⟨o,s,x,e1,e2⟩
 ·cases g8:iy kp o with
  | true=>
   rw [(ji g8).1] at h
   rcases x0.JF o p h with h | ⟨h,k⟩
   ·rw [jv g8] at h;exact .inl h
   ·rw [jv g8] at h;exact .inr ⟨h,(h1 o g8).2.2 k⟩
  | false=>rw [(jo g8).1] at h;exact .inl h
 ·cases g8:iy kp o with
  | true=>exact (h1 o g8).2.2 (x0.fr o ((ji g8).2.2.1 h))
  | false=>exact (jo g8).2.2.1 h
 ·rcases x0.tR b i x h with h | h | h
  ·exact .inl h
  ·exact .inr (.inl (Kv h))
  ·exact .inr (.inr h)
end
section
open Go.RowKit
theorem PC.frame {P:Program} {f:FuncId} {kp:Nat→Bool} {aa:List A} {S S0 wQ:Hp} {r:A} (h0:∀i,iy kp i=false→S0.ob i=none) (h1:∀i,iy kp i=true→S.ob i=S0.ob i∧(S.fr i↔S0.fr i)) (hk:∀i x,S0.ob i=some x→My kp x)
  (wO:∀i x,iy kp i=true→wQ.ob i=some x→My kp x) (ha:∀a∈aa,VK kp a) (hr:VK kp r) (h:PC P f aa S0 wQ r):PC P f aa S (Hp.join kp wQ S) r:=fun g w vs hI hl hv=>by
 refine (h (g.kR kp) w vs (DV hI h0 h1 hk) hl (fun i p v e1 e2=>ha p (zG e1) g v (hv i p v e1 e2))).mono ?_
 rintro e w' ⟨v,g',rfl,k1,k2,k3⟩
 obtain ⟨q1,q2⟩:=AZ hI h0 h1 wO k2 k3
 exact ⟨v,_,rfl,hr.join k1,q1,q2⟩
def pk (kp:Nat→Bool):Ty→Bool
 | .int _=>true
 | .bool=>true
 | .unit=>true
 | .pair a b=>pk kp a && pk kp b
 | .arr _ t=>pk kp t
 | .aJ _=>true
 | .ptr r=>Nat.blt r 64 && kp r
 | .dT r=>Nat.blt r 64 && kp r
 | .jQ r _=>Nat.blt r 64 && kp r
 | .oS r _=>Nat.blt r 64 && kp r
 | .mp r=>Nat.blt r 64 && kp r
theorem tV {kp:Nat→Bool} {r j:Nat} (h:r<64) (hk:kp r=true):iy kp (fj r j)=true:=by
  have h1:=nw r j
  have h2:=ll (j:=j) h
  generalize fj r j=i at h1 h2
  unfold iy
  rw [h2,hk,Bool.and_true]
  cases hx:Nat.blt i 16777216 with
  | false=>rfl
  | true=>
            have:i<16777216:=by simpa using hx
            unfold cJ at h1;omega
theorem VK.v {kp:Nat→Bool} (x:Value):VK kp (.v x):=fun g v h=>by cases h;exact .v _
theorem VK.tp {kp:Nat→Bool} {r j:Nat} (h:r<64) (hk:kp r=true):VK kp (.tp (.eF r j) []):=fun g v hv=>by
 cases hv with
 | tp _ _ b s bL hp=>exact .tp _ _ b s (by rw [show (Ref.eF r j).id=fj r j from rfl,jv (tV h hk)];exact bL) hp
theorem VK.tw {kp:Nat→Bool} {r j z:Nat} (h:r<64) (hk:kp r=true):VK kp (.tw (.eF r j) z):=fun g v hv=>by
 have e:(g.kR kp).bm (Ref.eF r j).id=g.bm (Ref.eF r j).id:=jv (tV h hk)
 cases hv with
 | sr _ _ ad bL=>exact .sr _ _ ad (by rw [e];exact bL)
 | tw _ _ n b cap t bL hn hx hp d hd=>exact .tw _ _ n b cap t (by rw [e];exact bL) hn hx hp d hd
theorem VK.mp {kp:Nat→Bool} {r j:Nat} (h:r<64) (hk:kp r=true):VK kp (.mp (.eF r j)):=fun g v hv=>by
 cases hv with
 | mp _ b s bL=>exact .mp _ b s (by rw [show (Ref.eF r j).id=fj r j from rfl,jv (tV h hk)];exact bL)
theorem VK.tl {kp:Nat→Bool} {t:Ty} {f:Bool} {l:List t.T}:VK kp (.tl t f l):=fun g v hv=>by
 cases hv with
 | tl _ _ _ _ hd=>exact .tl t f l v hd
theorem v5 {α β:Type} {f:α→List β} {p:β→Prop} (h:∀x,∀c∈f x,p c) (l:List α):∀c∈l.flatMap f,p c:=fun c hc=>by
 obtain ⟨x,_,hx⟩:=List.mem_flatMap.1 hc
 exact h x c hx
theorem nD {kp:Nat→Bool}:∀(t:Ty) (x:t.T),pk kp t=true→∀c∈aA t x,VK kp c
 | .int k,x,_,c,hc=>by rcases zF.1 hc with rfl;exact .v _
 | .bool,x,_,c,hc=>by rcases zF.1 hc with rfl;exact .v _
 | .unit,x,_,c,hc=>by cases hc
 | .pair a b,x,h,c,hc=>by
  simp only [pk,zC] at h
  rcases zX.1 hc with hc | hc
  ·exact nD a x.1 h.1 c hc
  ·exact nD b x.2 h.2 c hc
 | .arr n t,l,h,c,hc=>v5 (f:=fun i=>aA t (nth t.cM l i)) (fun i c hc=>nD t _ h c hc) _ c hc
 | .aJ t,l,_,c,hc=>by rcases zF.1 hc with rfl;exact .tl
 | .ptr r,x,h,c,hc=>by
  simp only [pk,zC] at h
  rcases zF.1 hc with rfl
  intro g v hv
  cases hv with
  | op _ _ _ h0 h1=>exact .op r x v h0 (fun j e=>VK.tp (a_ h.1) h.2 g v (h1 j e))
 | .dT r,j,h,c,hc=>by
  simp only [pk,zC] at h
  rcases zF.1 hc with rfl
  exact .tp (a_ h.1) h.2
 | .jQ r z,x,h,c,hc=>by
  simp only [pk,zC] at h
  rcases zF.1 hc with rfl
  intro g v hv
  cases hv with
  | os _ _ _ _ h0 h1=>exact .os r z x v (fun e=>by cases h0 e with | e0 ad=>exact .e0 ad) (fun j e=>VK.tw (a_ h.1) h.2 g v (h1 j e))
 | .oS r z,j,h,c,hc=>by
  simp only [pk,zC] at h
  rcases zF.1 hc with rfl
  exact .tw (a_ h.1) h.2
 | .mp r,x,h,c,hc=>by
  simp only [pk,zC] at h
  rcases zF.1 hc with rfl
  intro g v hv
  cases hv with
  | om _ _ _ h0 h1=>exact .om r x v h0 (fun j e=>VK.mp (a_ h.1) h.2 g v (h1 j e))
theorem VK.agg {kp:Nat→Bool} {cs:List A} (h:∀c∈cs,VK kp c):VK kp (.agg cs):=fun g v hv=>by
 cases hv with
 | agg _ vs hl h1 h2=>exact .agg cs vs hl h1 (fun i c x e1 e2=>h c (zG e1) g x (h2 i c x e1 e2))
theorem VK.jt {kp:Nat→Bool} {cs:List A} (h:∀c∈cs,VK kp c):VK kp (.jt cs):=fun g v hv=>by
 cases hv with
 | jt _ vs hl h2=>exact .jt cs vs hl (fun i c x e1 e2=>h c (zG e1) g x (h2 i c x e1 e2))
theorem VK.cI {kp:Nat→Bool}:VK kp .cI:=fun g v _=>.cI v
theorem VK.pack {kp:Nat→Bool} {a:Bool} {t:Ty} (x:t.T) (h:pk kp t=true):VK kp (bY a t x):=by
 unfold bY
 cases a with
 | true=>exact .agg (nD t x h)
 | false=>
  simp only [cond_false]
  split
  ·rename_i c hc
   exact nD t x h c (by rw [hc];exact .head _)
  ·exact .cI
def RK.pk (kp:Nat→Bool):RK→Bool
 | .box t=>Bm.pk kp t
 | .row t=>Bm.pk kp t
 | .map _ tk _ tv=>Bm.pk kp tk && Bm.pk kp tv
theorem Ab {kp:Nat→Bool} {k:RK} {c:k.T} {j:Nat} {x:Ob} (hk:k.pk kp=true) (h:dP k c j=some x):My kp x:=by
 cases k with
 | box t=>
  have h:(match kV (α:=t.T) c j with | some x=>some (Ob.cells (aA t x)) | none=>none)=some x:=h
  split at h
  ·cases h;exact nD t _ hk
  ·cases h
 | row t=>
  have h:(match kV (α:=Option (List t.T)) c j with | some (some l)=>some (Ob.cells (l.flatMap (aA t))) | _=>none)=some x:=h
  split at h
  ·cases h;exact v5 (fun y c hc=>nD t y hk c hc) _
  ·cases h
 | map ka tk va tv=>
  have h:(match kV (α:=List (tk.T×tv.T)) c j with | some es=>some (Ob.cN (.map (hZ ka tk va tv es))) | none=>none)=some x:=h
  simp only [RK.pk,zC] at hk
  split at h
  ·cases h
   intro e he
   obtain ⟨y,_,rfl⟩:=List.mem_map.1 he
   exact ⟨.pack _ hk.1,.pack _ hk.2⟩
  ·cases h
end
section
open Go.RowKit
deriving instance DecidableEq for RK
def w_:List A→A
 | [p]=>p
 | ps=>.jt ps
structure dO where
 ps:List (Bool×Ty)
 rs:List (Bool×Ty)
 rg:List (Nat×RK)
 wg:List (Nat×RK)
def kb:List (Bool×Ty)→Type
 | []=>Unit
 | p::l=>p.2.T×kb l
def mB:(l:List (Bool×Ty))→kb l→List A
 | [],_=>[]
 | p::l,x=>bY p.1 p.2 x.1::mB l x.2
def rO:List (Nat×RK)→Type
 | []=>Unit
 | p::l=>p.2.T×rO l
def dw:(l:List (Nat×RK))→rO l→List Rg
 | [],_=>[]
 | p::l,x=>⟨p.1,p.2,x.1⟩::dw l x.2
def h0 (rl wl:List (Nat×RK)) (c:rO rl) (d:rO wl):H:=⟨.nil,0,dw wl d++dw rl c,[]⟩
def J1:(l:List (Bool×Ty))→List A→Option (kb l)
 | [],[]=>some ()
 | p::l,a::aa=>match kP p.1 p.2 a,J1 l aa with
  | some x,some y=>some (x,y)
  | _,_=>none
 | _,_=>none
theorem td:∀(l:List (Bool×Ty)) (aa:List A) (x:kb l),J1 l aa=some x→aa.length=(mB l x).length∧∀(i:Nat) (a b:A),aa[i]?=some a→(mB l x)[i]?=some b→∀g v,V g a v→V g b v
 | [],[],x,_=>⟨rfl,fun i a b h=>by simp at h⟩
 | p::l,a::aa,x,h=>by
  simp only [J1] at h
  split at h
  ·rename_i y z h1 h2
   cases h
   obtain ⟨k1,k2⟩:=td l aa z h2
   refine ⟨congrArg Nat.succ k1,fun i a' b e1 e2=>?_⟩
   cases i with
   | zero=>
    have e1:a=a':=Option.some.inj e1
    have e2:bY p.1 p.2 y=b:=Option.some.inj e2
    subst e1 e2
    exact fun g v hv=>jV h1 hv
   | succ i=>exact k2 i a' b e1 e2
  ·cases h
 | [],_::_,_,h=>by cases h
 | _::_,[],_,h=>by cases h
def JO (a b:RK) (c:a.T):Option b.T:=if h:a=b then some (h▸c) else none
def dh (l:List (Nat×RK)) (r:Nat):Bool:=l.any fun p=>Nat.beq p.1 r
def xB:(l:List (Nat×RK))→List Rg→Option (rO l)
 | [],_=>some ()
 | p::l,rg=>match bu rg p.1,xB l rg with
  | some ⟨_,k,c⟩,some y=>match JO k p.2 c with
   | some x=>some (x,y)
   | none=>none
  | _,_=>none
theorem ym:∀{rg:List Rg} {r:Nat} {x:Rg},bu rg r=some x→x.r=r
 | y::l,r,x,h=>by
  unfold bu at h
  cases hy:Nat.beq y.r r with
  | true=>rw [hy] at h;cases h;exact beq_eq hy
  | false=>rw [hy] at h;exact ym h
theorem dS:∀(l:List (Nat×RK)) (c:rO l) (r:Nat),dh l r=false→bu (dw l c) r=none
 | [],_,_,_=>rfl
 | p::l,c,r,h=>by
  have h:(Nat.beq p.1 r || dh l r)=false:=h
  rw [Bool.or_eq_false_iff] at h
  show (bif Nat.beq p.1 r then _ else _)=_
  rw [h.1]
  exact dS l c.2 r h.2
theorem jd:∀(l:List (Nat×RK)) (c:rO l) (r:Nat),dh l r=true→∃x,bu (dw l c) r=some x
 | p::l,c,r,h=>by
  show ∃x,(bif Nat.beq p.1 r then some (⟨p.1,p.2,c.1⟩:Rg) else bu (dw l c.2) r)=some x
  cases hq:Nat.beq p.1 r with
  | true=>exact ⟨_,rfl⟩
  | false=>
   have h:(Nat.beq p.1 r || dh l r)=true:=h
   rw [hq,Bool.false_or] at h
   exact jd l c.2 r h
theorem gR:∀(l k:List Rg) (r:Nat),bu (l++k) r=match bu l r with | some x=>some x | none=>bu k r
 | [],k,r=>rfl
 | y::l,k,r=>by
  show (bif Nat.beq y.r r then some y else bu (l++k) r)=match (bif Nat.beq y.r r then some y else bu l r) with | some x=>some x | none=>bu k r
  cases hy:Nat.beq y.r r with
  | true=>rfl
  | false=>exact gR l k r
theorem kW:∀(l:List (Nat×RK)) (rg:List Rg) (c:rO l),xB l rg=some c→∀r,dh l r=true→bu (dw l c) r=bu rg r∧∃x,bu rg r=some x
 | [],_,_,_,_,h=>by cases h
 | p::l,rg,c,hg,r,h=>by
  simp only [xB] at hg
  split at hg
  ·rename_i r' k c' y h1 h2
   split at hg
   ·rename_i x hx
    cases hg
    show (bif Nat.beq p.1 r then some (⟨p.1,p.2,x⟩:Rg) else bu (dw l y) r)=_∧_
    cases hp:Nat.beq p.1 r with
    | true=>
     have e:=beq_eq hp
     subst e
     have hr:=ym h1
     simp only at hr
     subst hr
     unfold JO at hx
     split at hx
     ·rename_i ek
      obtain ⟨p1,p2⟩:=p
      simp only at ek
      subst ek
      cases hx
      rw [h1]
      exact ⟨rfl,_,rfl⟩
     ·cases hx
    | false=>
     have h:(Nat.beq p.1 r || dh l r)=true:=h
     rw [hp,Bool.false_or] at h
     exact kW l rg y h2 r h
   ·cases hg
  ·cases hg
def VsL (g:G) (aa:List A) (vs:List Value):Prop:=∀(i:Nat) (a:A) (v:Value),aa[i]?=some a→vs[i]?=some v→V g a v
def CvL (h h':H) (T:List Nat) (aa wP:List A):Prop:=wP.length=aa.length∧∃us,hp h'=app us (hp h)∧(∀u∈us,aG (.wr T) u.id=true) ∧
 ∀g S w (vs:List Value),Inv g S w→Agree (.wr T) (hp h) S→aa.length=vs.length→VsL g aa vs→∃g',Inv g' (app us S) w∧Ext S g w (app us S) g' w∧VsL g' wP vs
def Hc (a:Bool) (t:Ty) (p:A) (h:H):Option (A×H×List Nat):=bif a then (match p with
 | .agg cs=>match fixC 20 t cs h with
  | some (hH,h',T)=>some (.agg hH,h',T)
  | none=>none
 | _=>none) else bif xm p then none else (match p.cells with
 | some [c]=>match fixC 20 t [c] h with
  | some ([c'],h',T)=>some (c',h',T)
  | _=>none
 | _=>none)
def A6:List (Bool×Ty)→List A→H→Option (List A×H×List Nat)
 | [],[],h=>some ([],h,[])
 | p::l,a::aa,h=>match Hc p.1 p.2 a h with
  | some (a',h1,T1)=>match A6 l aa h1 with
   | some (wP,h2,T2)=>some (a'::wP,h2,T1++T2)
   | none=>none
  | none=>none
 | _,_,_=>none
theorem Bn {p c:A} (ha:xm p=false) (h:p.cells=some [c]):c=p:=by
 unfold A.cells at h
 split at h
 ·cases ha
 ·rename_i x
  cases hx:x.oneCell' with
  | true=>rw [hx] at h;simp at h;exact h.symm
  | false=>rw [hx] at h;cases h
 ·cases h
 ·cases h
 ·cases h
 ·simp at h;exact h.symm
theorem y6 {a:Bool} {t:Ty} {p p':A} {h h':H} {T:List Nat} (hf:Hc a t p h=some (p',h',T)):∃us,hp h'=app us (hp h)∧(∀u∈us,aG (.wr T) u.id=true)∧∀g S w (v:Value),Inv g S w→Agree (.wr T) (hp h) S→V g p v→∃g',Inv g' (app us S) w∧Ext S g w (app us S) g' w∧V g' p' v:=by
 unfold Hc at hf
 cases a with
 | true=>
  simp only [cond_true] at hf
  split at hf
  ·rename_i cs
   split at hf
   ·rename_i hH h1 T1 hc
    simp only [zI,zU] at hf
    obtain ⟨rfl,rfl,rfl⟩:=hf
    obtain ⟨us,c1,c2,c3⟩:=oF _ _ _ _ _ _ _ hc
    refine ⟨us,c1,c2,fun g S w v hI hA hv=>?_⟩
    cases hv with
    | agg _ vs hl h1 hh=>
     obtain ⟨g',q1,q2,q3⟩:=c3 g S w vs.toList hI hA ⟨by simpa using hl,fun j c x e1 e2=>⟨hh j c x e1 (by simpa using e2),h1 x (zG e2)⟩⟩
     exact ⟨g',q1,q2,by have:=q3.agg;simpa using this⟩
   ·cases hf
  ·cases hf
 | false=>
  simp only [cond_false] at hf
  obtain ⟨ha,hf⟩:=iY hf
  split at hf
  ·rename_i c hc
   split at hf
   ·rename_i c' h1 T1 GV
    simp only [zI,zU] at hf
    obtain ⟨rfl,rfl,rfl⟩:=hf
    obtain ⟨us,c1,c2,c3⟩:=oF _ _ _ _ _ _ _ GV
    obtain rfl:=Bn ha hc
    refine ⟨us,c1,c2,fun g S w v hI hA hv=>?_⟩
    obtain ⟨g',q1,q2,q3⟩:=c3 g S w [v] hI hA ⟨rfl,fun j c x e1 e2=>by
     cases j with
     | zero=>simp at e1 e2;subst e1 e2;exact ⟨hv,hv.sc1 ha hc⟩
     | succ j=>simp at e1⟩
    exact ⟨g',q1,q2,(q3.2 0 _ v rfl rfl).1⟩
   ·cases hf
  ·cases hf
theorem uq:∀{l:List (Bool×Ty)} {aa wP:List A} {h h':H} {T:List Nat},A6 l aa h=some (wP,h',T)→CvL h h' T aa wP
 | [],[],wP,h,h',T,hf=>by
  simp only [A6,zI,zU] at hf
  obtain ⟨rfl,rfl,rfl⟩:=hf
  exact ⟨rfl,[],rfl,fun u hu=>(by simp at hu),fun g S w vs hI _ _ hv=>⟨g,hI,.refl S g w,hv⟩⟩
 | p::l,a::aa,wP,h,h',T,hf=>by
  simp only [A6] at hf
  split at hf
  ·rename_i a1 h1 T1 K3
   split at hf
   ·rename_i as1 h2 T2 DI
    simp only [zI,zU] at hf
    obtain ⟨rfl,rfl,rfl⟩:=hf
    obtain ⟨us,c1,c2,c3⟩:=y6 K3
    obtain ⟨hl,vs2,d1,d2,d3⟩:=uq DI
    refine ⟨by simp [hl],us++vs2,by rw [ir,←c1,d1],fun u hu=>?_,fun g S w vs hI hA hlen hv=>?_⟩
    ·rcases zX.1 hu with h | h
     ·exact eZ (fun i hi=>zQ _ hi) (c2 u h)
     ·exact eZ (fun i hi=>zS _ hi) (d2 u h)
    ·have GZ:Agree (.wr T1) (hp h) S:=hA.mono fun i hi=>zQ _ hi
     have AW:Agree (.wr T2) (hp h1) (app us S):=by rw [c1];exact (hA.mono (fun i hi=>zS _ hi)).app us
     cases vs with
     | nil=>simp at hlen
     | cons v vs=>
      obtain ⟨g',q1,q2,q3⟩:=c3 g S w v hI GZ (hv 0 a v rfl rfl)
      obtain ⟨g2,z1,z2,z3⟩:=d3 g' _ w vs q1 AW (by simpa using hlen) (fun i a v e1 e2=>(hv (i+1) a v (by simpa using e1) (by simpa using e2)).mono q2.le)
      rw [ir]
      refine ⟨g2,z1,q2.trans z2,fun i a v e1 e2=>?_⟩
      cases i with
      | zero=>simp at e1 e2;subst e1 e2;exact q3.mono z2.le
      | succ i=>exact z3 i a v (by simpa using e1) (by simpa using e2)
   ·cases hf
  ·cases hf
 | [],_::_,_,_,_,_,hf=>by cases hf
 | _::_,[],_,_,_,_,hf=>by cases hf
def xD (l:List (Bool×Ty)) (pv:A) (h:H):Option (A×H×List Nat):=match pv with
 | .jt aa=>match A6 l aa h with
  | some (wP,h',T)=>some (.jt wP,h',T)
  | none=>none
 | _=>none
def xE (l:List (Bool×Ty)) (pv:A) (h:H):Option (A×H×List Nat):=match l with
 | [p]=>Hc p.1 p.2 pv h
 | l=>xD l pv h
def Plain (sg:dO):Type:=kb sg.ps→rO sg.rg→rO sg.wg→Option (kb sg.rs×rO sg.wg)
def HN (l:List (Bool×Ty)) (pv:A):Option (kb l):=match l with
 | [p]=>J1 [p] [pv]
 | l=>match pv with
  | .jt aa=>J1 l aa
  | _=>none
def okW (l:List (Nat×RK)) (q:Nat):Bool:=Nat.beq (q%2) 0 || l.any fun p=>Nat.beq q (h_ p.1)
def FE (cx:Cx) (f:FuncId) (sg:dO) (aa:List A) (c:rO sg.rg) (d:rO sg.wg):Option (kb sg.rs×rO sg.wg):=cx.call (kb sg.rs×rO sg.wg) f aa (h0 sg.rg sg.wg c d) (fun pv h' T=>match xE sg.rs pv h' with
 | some (EZ,h2,T2)=>bif T.ws.all (okW sg.wg) && T2.all (okW sg.wg) then (match HN sg.rs EZ,xB sg.wg h2.rg with
  | some y,some d'=>some (y,d')
  | _,_=>none) else none
 | none=>none)
def J9 (cx:Cx) (f:FuncId) (sg:dO):Plain sg:=fun x c d=>FE cx f sg (mB sg.ps x) c d
def u_ (l:List (Bool×Ty)) (y:kb l):A:=w_ (mB l y)
structure bH (P:Program) (f:FuncId) (sg:dO) (F:Plain sg):Prop where
 fn:∀x c d y,F x c d=some y→uK P f
 pc:∀x c d y d',F x c d=some (y,d')→∃t aQ lk,PC P f (mB sg.ps x) (hp (h0 sg.rg sg.wg c d)) (hp ⟨t,aQ,dw sg.wg d'++dw sg.rg c,lk⟩) (u_ sg.rs y)
theorem yy {l:List (Nat×RK)} {ws:List Nat} (h:ws.all (okW l)=true) {r:Nat} (hr:dh l r=false):ws.any (Nat.beq (h_ r))=false:=by
 cases hx:ws.any (Nat.beq (h_ r)) with
 | false=>rfl
 | true=>
  obtain ⟨q,h1,h2⟩:=List.any_eq_true.1 hx
  have h3:=List.all_eq_true.1 h q h1
  obtain rfl:=beq_eq h2
  unfold okW at h3
  rw [Bool.or_eq_true] at h3
  rcases h3 with h3 | h3
  ·have:=beq_eq h3;unfold h_ at this;omega
  ·obtain ⟨p,p1,p2⟩:=List.any_eq_true.1 h3
   have:r=p.1:=by have:=beq_eq p2;unfold h_ at this;omega
   subst this
   rw [show dh l p.1=true from List.any_eq_true.2 ⟨p,p1,Nat.beq_refl _⟩] at hr
   cases hr
theorem BV {l:List (Bool×Ty)} {pv:A} {y:kb l} (h:HN l pv=some y):∀g v,V g pv v→V g (u_ l y) v:=by
 have jt:∀(l:List (Bool×Ty)) (aa:List A) (y:kb l),J1 l aa=some y→∀g v,V g (.jt aa) v→V g (.jt (mB l y)) v:=fun l aa y h g v hv=>by
  obtain ⟨k1,k2⟩:=td l aa y h
  cases hv with
  | jt _ vs hl E6=>
   refine .jt _ vs (by rw [←k1];exact hl) (fun i c x e1 e2=>?_)
   have hi:i<aa.length:=by rw [k1];exact (zB.1 e1).1
   exact k2 i _ c (zD hi) e1 g x (E6 i _ x (zD hi) e2)
 match l,y,h with
 | [p],y,h=>exact fun g v hv=>(td [p] [pv] y h).2 0 pv _ rfl rfl g v hv
 | [],y,h=>
  intro g v hv
  cases pv with
  | jt aa=>exact jt [] aa y h g v hv
  | _=>cases h
 | p::q::l,y,h=>
  intro g v hv
  cases pv with
  | jt aa=>exact jt (p::q::l) aa y h g v hv
  | _=>cases h
theorem Agree.self {T:Fp} {S:Hp}:Agree T S S:=fun _ _=>⟨rfl,Iff.rfl⟩
theorem fe {h:H} {i:Nat} (hl:¬i<cJ):(hp h).ob i=dQ h.rg i∧((hp h).fr i↔fU h.rg i):=⟨if_neg hl,by show (if i<cJ then _ else _)↔_;rw [if_neg hl]⟩
theorem o_ {i:Nat} (h:¬i<16777216):res i=h_ (lT i):=by
 unfold res
 rw [tP h];rfl
theorem A5 {l:List (Bool×Ty)} {pv EZ:A} {h h':H} {T:List Nat} (hf:xE l pv h=some (EZ,h',T)):∃us,hp h'=app us (hp h)∧(∀u∈us,aG (.wr T) u.id=true)∧∀g S w (v:Value),Inv g S w→Agree (.wr T) (hp h) S→V g pv v→∃g',Inv g' (app us S) w∧Ext S g w (app us S) g' w∧V g' EZ v:=by
 have jt:∀(l:List (Bool×Ty)),xD l pv h=some (EZ,h',T)→∃us,hp h'=app us (hp h)∧(∀u∈us,aG (.wr T) u.id=true)∧∀g S w (v:Value),Inv g S w→Agree (.wr T) (hp h) S→V g pv v→∃g',Inv g' (app us S) w∧Ext S g w (app us S) g' w∧V g' EZ v:=fun l hf=>by
  unfold xD at hf
  split at hf
  ·rename_i aa
   split at hf
   ·rename_i wP h1 T1 hc
    simp only [zI,zU] at hf
    obtain ⟨rfl,rfl,rfl⟩:=hf
    obtain ⟨hl,us,c1,c2,c3⟩:=uq hc
    refine ⟨us,c1,c2,fun g S w v hI hA hv=>?_⟩
    cases hv with
    | jt _ vs Mn hh=>
     obtain ⟨g',q1,q2,q3⟩:=c3 g S w vs.toList hI hA (by simpa using Mn) (fun i c x e1 e2=>hh i c x e1 (by simpa using e2))
     exact ⟨g',q1,q2,.jt wP vs (by rw [hl,Mn]) (fun i c x e1 e2=>q3 i c x e1 (by simpa using e2))⟩
   ·cases hf
  ·cases hf
 unfold xE at hf
 split at hf
 ·exact y6 hf
 ·exact jt _ hf
theorem oc {P:Program} {cx:Cx} (hx:ld P cx) (f:FuncId) (sg:dO):∀aa c d y d',FE cx f sg aa c d=some (y,d')→uK P f∧∃t aQ lk,PC P f aa (hp (h0 sg.rg sg.wg c d)) (hp ⟨t,aQ,dw sg.wg d'++dw sg.rg c,lk⟩) (u_ sg.rs y):=fun aa c d y d' h=>by
 obtain ⟨pv,h',T,k1,k2⟩:=hx.call _ f _ _ _ _ h
 split at k1
 ·rename_i EZ h2 T2 W9
  obtain ⟨kw,k1⟩:=ah k1
  rw [zC] at kw
  split at k1
  ·rename_i y' d'' h1 UH
   cases k1
   refine ⟨k2.fn,h2.t,h2.aQ,h2.lk,?_⟩
   have hs:=k2.ok (hp (h0 sg.rg sg.wg c d)) Agree.self
   have e:iS T (hp h') (hp (h0 sg.rg sg.wg c d))=hp h':=Hp.ext' (fun i=>by
    show (if aG T i=true then _ else _)=_
    split
    ·rfl
    ·rename_i hi;exact (k2.out i (by simpa using hi)).1.symm) (fun i=>by
    show (if aG T i=true then _ else _)↔_
    split
    ·exact Iff.rfl
    ·rename_i hi;exact (k2.out i (by simpa using hi)).2.symm)
   rw [e] at hs
   obtain ⟨us,c1,c2,c3⟩:=A5 W9
   have hf:=kW _ _ _ UH
   have e2:hp h2=hp ⟨h2.t,h2.aQ,dw sg.wg d'++dw sg.rg c,h2.lk⟩:=by
    have key:∀i,¬i<cJ→(hp h2).ob i=dQ (dw sg.wg d'++dw sg.rg c) i∧((hp h2).fr i↔fU (dw sg.wg d'++dw sg.rg c) i):=fun i hl=>by
     cases hk:dh sg.wg (lT i) with
     | true=>
      obtain ⟨q1,x,q2⟩:=hf _ hk
      rw [(fe hl).1,(fe hl).2]
      unfold dQ fU
      rw [gR,q1,q2]
      exact ⟨rfl,Iff.rfl⟩
     | false=>
      have hw:wt T i=false:=by
       unfold wt
       rw [o_ hl,yy kw.1 hk,Bool.and_false]
      have h3:=k2.rd i hw
      have h4:=dB us (hp h') i (fun u hu e=>by
       have:=c2 u hu
       rw [←e] at this
       have this:T2.any (Nat.beq (res i))=true:=by simpa [aG,Fp.wr] using this
       rw [o_ hl,yy kw.2 hk] at this;cases this)
      rw [c1,h4.1,h4.2,h3.1,h3.2,(fe hl).1,(fe hl).2]
      show dQ (dw sg.wg d++dw sg.rg c) i=_∧(fU (dw sg.wg d++dw sg.rg c) i↔_)
      unfold dQ fU
      rw [gR,gR,dS _ _ _ hk,dS _ _ _ hk]
      exact ⟨rfl,Iff.rfl⟩
    refine Hp.ext' (fun i=>?_) (fun i=>?_)
    ·by_cases hl:i<cJ
     ·show (if i<cJ then _ else _)=(if i<cJ then _ else _);rw [if_pos hl,if_pos hl]
     ·rw [(key i hl).1,(fe hl).1]
    ·by_cases hl:i<cJ
     ·show (if i<cJ then _ else _)↔(if i<cJ then _ else _);rw [if_pos hl,if_pos hl]
     ·rw [(key i hl).2,(fe hl).2]
   rw [←e2,c1]
   intro g w vs hI hl hv
   refine (hs g w vs hI hl hv).mono ?_
   rintro e w' ⟨v,g',rfl,q1,q2,q3⟩
   obtain ⟨g2,z1,z2,z3⟩:=c3 g' _ w' v q2 Agree.self q1
   exact ⟨v,g2,rfl,BV h1 g2 v z3,z1,q3.trans z2⟩
  ·cases k1
 ·cases k1
theorem FD {P:Program} {cx:Cx} (hx:ld P cx) (f:FuncId) (sg:dO):bH P f sg (J9 cx f sg):=
 ⟨fun x c d y h=>(oc hx f sg _ _ _ y.1 y.2 h).1,fun x c d y d' h=>(oc hx f sg _ _ _ _ _ h).2⟩
end
section
open Go.RowKit
def kf:(l:List (Nat×RK))→rO l→List Rg→List Rg
 | [],_,rg=>rg
 | p::l,x,rg=>ja (kf l x.2 rg) p.1 p.2 x.1
theorem ln:∀(l:List (Nat×RK)) (rg:List Rg) (c':rO l),(∀r,dh l r=true→∃x,bu rg r=some x)→∀r,bu (kf l c' rg) r=if dh l r=true then bu (dw l c') r else bu rg r
 | [],rg,c',_,r=>by simp [kf,dh]
 | p::l,rg,c',hx,r=>by
  have ih:=ln l rg c'.2 (fun r hr=>hx r (by show (Nat.beq p.1 r || dh l r)=true;rw [hr,Bool.or_true]))
  have hp:∃x,bu (kf l c'.2 rg) p.1=some x:=by
   rw [ih]
   split
   ·rename_i hk
    exact jd l c'.2 p.1 hk
   ·exact hx p.1 (by show (Nat.beq p.1 p.1 || dh l p.1)=true;rw [Nat.beq_refl];rfl)
  obtain ⟨x,hp⟩:=hp
  show bu (ja (kf l c'.2 rg) p.1 p.2 c'.1) r=if (Nat.beq p.1 r || dh l r)=true then (bif Nat.beq p.1 r then some (⟨p.1,p.2,c'.1⟩:Rg) else bu (dw l c'.2) r) else bu rg r
  rw [mH _ p.1 p.2 c'.1 r x hp,ih]
  by_cases hr:r=p.1
  ·subst hr;rw [if_pos rfl,Nat.beq_refl];simp
  ·have:Nat.beq p.1 r=false:=by
    cases hb:Nat.beq p.1 r with
    | false=>rfl
    | true=>exact absurd (beq_eq hb).symm hr
   rw [if_neg hr,this];simp
def dO.al (sg:dO):List (Nat×RK):=sg.wg++sg.rg
theorem C9 (l k:List (Nat×RK)) (r:Nat):dh (l++k) r=(dh l r || dh k r):=List.any_append
def Pq (sg:dO) (h:H):Bool:=(sg.al.all fun p=>Nat.blt p.1 64 && p.2.pk (dh sg.al)) && (sg.wg.all fun p=>!(vK h (h_ p.1))) && (sg.ps.all fun p=>pk (dh sg.al) p.2) && (sg.rs.all fun p=>pk (dh sg.al) p.2)
def Lz (sg:dO):Fp:=⟨false,sg.al.map fun p=>h_ p.1,!sg.wg.isEmpty,sg.wg.map fun p=>h_ p.1⟩
section
variable {β:Type}
def Y4 (sg:dO) (F:Plain sg) (aa:List A) (h:H) (K:A→H→Fp→Option β):Option β:=match J1 sg.ps aa,xB sg.rg h.rg,xB sg.wg h.rg with
 | some x,some c,some d=>bif Pq sg h then bd (F x c d) (fun p=>B3 (u_ sg.rs p.1) (fun v=>K v { h with rg:=kf sg.wg p.2 h.rg } (Lz sg))) else none
 | _,_,_=>none
def L_:List Nat→Fp
 | []=>.no
 | l=>.wr l
theorem mF (l:List Nat) (i:Nat):aG (L_ l) i=aG (.wr l) i:=by cases l<;>rfl
theorem JY (l:List Nat) (i:Nat) (h:wt (L_ l) i=false):aG (.wr l) i=false:=by
 cases l with
 | nil=>rfl
 | cons a l=>exact sq h
def UP (sg:dO) (F:Plain sg) (aa:List A) (h:H) (K:A→H→Fp→Option β):Option β:=match A6 sg.ps aa h with
 | some (wP,h1,T1)=>Y4 sg F wP h1 (fun v h2 T=>K v h2 ((L_ T1).cat T))
 | none=>none
theorem GC {kp:Nat→Bool} {i:Nat} (h:i<16777216):iy kp i=false:=by
 unfold iy
 rw [xg h];rfl
theorem C_ {kp:Nat→Bool} {i:Nat} (h:¬i<16777216):iy kp i=kp (lT i):=by
 unfold iy
 rw [tP h];rfl
theorem uB (l:List (Nat×RK)) (r:Nat):(l.map fun p=>h_ p.1).any (Nat.beq (h_ r))=dh l r:=by
 induction l with
 | nil=>rfl
 | cons p l ih=>
  show (Nat.beq (h_ r) (h_ p.1) || (l.map fun p=>h_ p.1).any (Nat.beq (h_ r)))=(Nat.beq p.1 r || dh l r)
  rw [ih]
  have:Nat.beq (h_ r) (h_ p.1)=Nat.beq p.1 r:=by
   cases h1:Nat.beq p.1 r with
   | true=>rw [beq_eq h1];exact Nat.beq_refl _
   | false=>
    cases h2:Nat.beq (h_ r) (h_ p.1) with
    | false=>rfl
    | true=>
     have:p.1=r:=by have:=beq_eq h2;unfold h_ at this;omega
     rw [this,Nat.beq_refl] at h1;cases h1
  rw [this]
theorem Hz (l:List (Nat×RK)) (i:Nat):(l.map fun p=>h_ p.1).any (Nat.beq (dq i))=false:=by
 induction l with
 | nil=>rfl
 | cons p l ih=>
  show (Nat.beq (dq i) (h_ p.1) || (l.map fun p=>h_ p.1).any (Nat.beq (dq i)))=false
  rw [ih,Bool.or_false]
  cases h2:Nat.beq (dq i) (h_ p.1) with
  | false=>rfl
  | true=>have:=beq_eq h2;unfold h_ dq at this;omega
theorem nW (sg:dO) (i:Nat):aG (Lz sg) i=iy (dh sg.al) i:=by
 have e:aG (Lz sg) i=(sg.al.map fun p=>h_ p.1).any (Nat.beq (res i)):=Bool.false_or _
 rw [e]
 by_cases h:i<16777216
 ·rw [mI h,GC h];exact Hz _ _
 ·rw [o_ h,C_ h];exact uB _ _
theorem NG {sg:dO} {i:Nat} (h:wt (Lz sg) i=false) (hl:¬i<16777216):dh sg.wg (lT i)=false:=by
 have e:(!sg.wg.isEmpty && (sg.wg.map fun p=>h_ p.1).any (Nat.beq (res i)))=false:=h
 rw [o_ hl,uB] at e
 cases hw:sg.wg with
 | nil=>rfl
 | cons p l=>rw [hw] at e;simpa using e
theorem rH {kp:Nat→Bool}:∀(l:List (Bool×Ty)) (x:kb l),(l.all fun p=>pk kp p.2)=true→∀a∈mB l x,VK kp a
 | [],_,_,a,ha=>by cases ha
 | p::l,x,h,a,ha=>by
  simp only [List.all_cons,zC] at h
  rcases List.mem_cons.1 ha with rfl | ha
  ·exact .pack _ h.1
  ·exact rH l x.2 h.2 a ha
theorem qE {kp:Nat→Bool}:∀(l:List (Nat×RK)) (c:rO l),(∀p∈l,p.2.pk kp=true)→∀r q,bu (dw l c) r=some q→q.k.pk kp=true
 | [],c,_,r,q,h=>by cases h
 | p::l,c,hl,r,q,h=>by
  have h:(bif Nat.beq p.1 r then some (⟨p.1,p.2,c.1⟩:Rg) else bu (dw l c.2) r)=some q:=h
  cases hb:Nat.beq p.1 r with
  | true=>rw [hb] at h;cases h;exact hl p (.head _)
  | false=>rw [hb] at h;exact qE l c.2 (fun p hp=>hl p (.tail _ hp)) r q h
theorem LA {P:Program} {f:FuncId} {sg:dO} {F:Plain sg} (hF:bH P f sg F) {aa:List A} {h:H} {K:A→H→Fp→Option β} {r:β} (hr:Y4 sg F aa h K=some r):∃pv h' T,K pv h' T=some r∧s_ P f aa h h' T pv:=by
 unfold Y4 at hr
 split at hr
 ·rename_i x c d hx hc hd
  obtain ⟨hs,hr⟩:=ah hr
  obtain ⟨⟨y,d'⟩,hy,hr⟩:=xW hr
  obtain ⟨pv,hr,pn⟩:=wZ hr
  unfold Pq at hs
  simp only [zC] at hs
  obtain ⟨⟨⟨KS,_⟩,hs2⟩,hs3⟩:=hs
  obtain ⟨t,aQ,lk,Mj⟩:=hF.pc x c d y d' hy
  have hfc:=kW _ _ _ hc
  have hfd:=kW _ _ _ hd
  have AU:=ln sg.wg h.rg d' (fun r hr=>(hfd r hr).2)
  have Ul:∀r,dh sg.al r=(dh sg.wg r || dh sg.rg r):=fun r=>C9 _ _ r
  have fA:∀r,dh sg.al r=true→bu (dw sg.wg d++dw sg.rg c) r=bu h.rg r:=fun r hk=>by
   rw [gR]
   cases hw:dh sg.wg r with
   | true=>obtain ⟨e,q,hq⟩:=hfd r hw;rw [e,hq]
   | false=>
    rw [dS _ _ _ hw]
    exact (hfc r (by rw [Ul,hw] at hk;simpa using hk)).1
  have fB:∀r,dh sg.al r=true→bu (dw sg.wg d'++dw sg.rg c) r=bu (kf sg.wg d' h.rg) r:=fun r hk=>by
   rw [gR,AU]
   cases hw:dh sg.wg r with
   | true=>obtain ⟨q,hq⟩:=jd sg.wg d' r hw;rw [hq];simp
   | false=>
    rw [dS _ _ _ hw]
    exact (hfc r (by rw [Ul,hw] at hk;simpa using hk)).1
  have fC:∀r,dh sg.al r=false→bu (dw sg.wg d++dw sg.rg c) r=none:=fun r hk=>by
   rw [Ul,Bool.or_eq_false_iff] at hk
   rw [gR,dS _ _ _ hk.1]
   exact dS _ _ _ hk.2
  have fD:∀i,(¬i<cJ→dh sg.wg (lT i)=false)→(hp { h with rg:=kf sg.wg d' h.rg }).ob i=(hp h).ob i∧((hp { h with rg:=kf sg.wg d' h.rg }).fr i↔(hp h).fr i):=fun i hi=>by
   show (if i<cJ then fG h.t i else dQ (kf sg.wg d' h.rg) i)=(if i<cJ then fG h.t i else dQ h.rg i)∧((if i<cJ then h.aQ≤i else fU (kf sg.wg d' h.rg) i)↔(if i<cJ then h.aQ≤i else fU h.rg i))
   by_cases hl:i<cJ
   ·rw [if_pos hl,if_pos hl,if_pos hl,if_pos hl];exact ⟨rfl,Iff.rfl⟩
   ·rw [if_neg hl,if_neg hl,if_neg hl,if_neg hl]
    have:=AU (lT i)
    rw [hi hl,if_neg (by simp)] at this
    unfold dQ fU
    rw [this];exact ⟨rfl,Iff.rfl⟩
  have CV:∀{i},iy (dh sg.al) i=true→¬i<cJ∧dh sg.al (lT i)=true:=fun {i} hi=>by
   unfold iy at hi
   simp only [zC,Bool.not_eq_true'] at hi
   refine ⟨fun hl=>?_,hi.2⟩
   have:Nat.blt i 16777216=true:=xg hl
   rw [this] at hi;cases hi.1
  have Qt:∀{i},iy (dh sg.al) i=false→¬i<cJ→dh sg.al (lT i)=false:=fun {i} hi hl=>by
   rw [C_ hl] at hi;exact hi
  have inL:∀(l:List Rg),(∀r q,bu l r=some q→q.k.pk (dh sg.al)=true)→∀i x,¬i<cJ→dQ l i=some x→My (dh sg.al) x:=fun l hl i x _ hx=>by
   unfold dQ at hx
   split at hx
   ·rename_i q hq
    exact Ab (hl _ q hq) hx
   ·cases hx
  have inA:∀(d1:rO sg.wg) r q,bu (dw sg.wg d1++dw sg.rg c) r=some q→q.k.pk (dh sg.al)=true:=fun d1 r q hq=>by
   have iF:∀p∈sg.al,p.2.pk (dh sg.al)=true:=fun p hp=>by
    have:=List.all_eq_true.1 KS p hp
    simp only [zC] at this
    exact this.2
   rw [gR] at hq
   split at hq
   ·rename_i q1 h1
    cases hq
    exact qE sg.wg d1 (fun p hp=>iF p (zQ _ hp)) _ _ h1
   ·exact qE sg.rg c (fun p hp=>iF p (zS _ hp)) _ _ hq
  refine ⟨pv,_,_,hr,⟨fun i hi=>fD i (fun hl=>?_),fun i hi=>fD i (fun hl=>NG hi hl),hF.fn x c d _ hy,fun S2 hA=>?_⟩⟩
  ·rw [nW] at hi
   have:=Qt hi hl
   rw [Ul,Bool.or_eq_false_iff] at this
   exact this.1
  ·have QU:=PC.frame (kp:=dh sg.al) (S:=S2) (fun i hi=>?_) (fun i hi=>?_) (fun i q hq=>?_) (fun i q hi hq=>?_) (rH sg.ps x hs2) (r:=u_ sg.rs y) ?_ Mj
   ·have e:Hp.join (dh sg.al) (hp ⟨t,aQ,dw sg.wg d'++dw sg.rg c,lk⟩) S2=iS (Lz sg) (hp { h with rg:=kf sg.wg d' h.rg }) S2:=by
     refine Hp.ext' (fun i=>?_) (fun i=>?_)
     ·show (if iy (dh sg.al) i=true then _ else _)=(if aG (Lz sg) i=true then _ else _)
      rw [nW]
      by_cases hi:iy (dh sg.al) i=true
      ·obtain ⟨n1,n2⟩:=CV hi
       rw [if_pos hi,if_pos hi,(fe n1).1,(fe n1).1]
       unfold dQ
       rw [fB _ n2]
      ·rw [if_neg hi,if_neg hi]
     ·show (if iy (dh sg.al) i=true then _ else _)↔(if aG (Lz sg) i=true then _ else _)
      rw [nW]
      by_cases hi:iy (dh sg.al) i=true
      ·obtain ⟨n1,n2⟩:=CV hi
       rw [if_pos hi,if_pos hi,(fe n1).2,(fe n1).2]
       unfold fU
       rw [fB _ n2]
      ·rw [if_neg hi,if_neg hi]
    rw [e] at QU
    obtain ⟨u1,u2⟩:=td _ _ _ hx
    intro g w vs hI hl hv
    refine (QU g w vs hI (by rw [←u1];exact hl) (fun i p v e1 e2=>?_)).mono ?_
    ·have hi:i<aa.length:=by rw [u1];exact (zB.1 e1).1
     exact u2 i _ p (zD hi) e1 g v (hv i _ v (zD hi) e2)
    ·rintro e w' ⟨v,g',rfl,q1,q2,q3⟩
     exact ⟨v,g',rfl,pn g' v q1,q2,q3⟩
   ·by_cases hl:i<cJ
    ·show (if i<cJ then fG .nil i else _)=none
     rw [if_pos hl];rfl
    ·rw [(fe hl).1]
     show dQ (dw sg.wg d++dw sg.rg c) i=none
     unfold dQ
     rw [fC _ (Qt hi hl)]
   ·obtain ⟨n1,n2⟩:=CV hi
    obtain ⟨a1,a2⟩:=hA i (by rw [nW];exact hi)
    rw [a1,a2,(fe n1).1,(fe n1).2,(fe n1).1,(fe n1).2]
    show dQ h.rg i=dQ (dw sg.wg d++dw sg.rg c) i∧(fU h.rg i↔fU (dw sg.wg d++dw sg.rg c) i)
    unfold dQ fU
    rw [fA _ n2];exact ⟨rfl,Iff.rfl⟩
   ·by_cases hl:i<cJ
    ·have hq:(if i<cJ then fG .nil i else _)=some q:=hq
     rw [if_pos hl] at hq;cases hq
    ·rw [(fe hl).1] at hq
     exact inL _ (inA d) i q hl hq
   ·rw [(fe (CV hi).1).1] at hq
    exact inL _ (inA d') i q (CV hi).1 hq
   ·have iF:=rH (kp:=dh sg.al) sg.rs y hs3
    unfold u_
    generalize mB sg.rs y=ps at iF
    match ps,iF with
    | [p],iF=>exact iF p (.head _)
    | [],iF=>exact .jt iF
    | p::q::ps,iF=>exact .jt iF
 ·cases hr
theorem LB {P:Program} {f:FuncId} {sg:dO} {F:Plain sg} (hF:bH P f sg F) {aa:List A} {h:H} {K:A→H→Fp→Option β} {r:β} (hr:UP sg F aa h K=some r):∃pv h' T,K pv h' T=some r∧s_ P f aa h h' T pv:=by
 unfold UP at hr
 split at hr
 ·rename_i wP h1 T1 GV
  obtain ⟨pv,h2,T,k1,k2⟩:=LA hF hr
  obtain ⟨hl,us,c1,c2,c3⟩:=uq GV
  have out:∀i,aG (L_ T1) i=false→(hp h1).ob i=(hp h).ob i∧((hp h1).fr i↔(hp h).fr i):=fun i hi=>by
   rw [c1];exact dB us _ i (fun u hu e=>by rw [mF,e,c2 u hu] at hi;cases hi)
  have f1:nM h h1 (L_ T1):=⟨out,fun i hi=>out i ((mF T1 i).trans (JY T1 i hi))⟩
  have f2:nM h1 h2 T:=⟨k2.out,k2.rd⟩
  refine ⟨pv,h2,_,k1,(f1.trans f2).out,(f1.trans f2).rd,k2.fn,fun S2 hA=>?_⟩
  rw [←gV f2]
  have A1:=hA.left
  have A2:=Agree.right f1 hA
  have e:iS (L_ T1) (hp h1) S2=app us S2:=by rw [c1];exact ib (fun u hu=>(mF T1 _).trans (c2 u hu)) A1
  rw [e] at A2 ⊢
  intro g w vs hI UD hv
  obtain ⟨g1,q1,q2,q3⟩:=c3 g S2 w vs hI (fun i hi=>A1 i ((mF T1 i).trans hi)) UD hv
  refine (k2.ok _ A2 g1 w vs q1 (by rw [hl];exact UD) q3).mono ?_
  rintro e w' ⟨v,g',rfl,z1,z2,z3⟩
  exact ⟨v,g',rfl,z1,z2,q2.trans z3⟩
 ·cases hr
end
end
section
open Go.RowKit
def stay (N i:Nat):Prop:=i<N∨¬i<cJ
structure x6 (N:Nat) (g g':G):Prop where
 bm:∀i,stay N i→g'.bm i=g.bm i
 mem:g'.mem=g.mem
 lp:g'.lp=g.lp
def VP (N:Nat) (c:A):Prop:=∀g g' v,x6 N g g'→V g c v→V g' c v
def E1 (N:Nat):Ref→Bool
 | .loc o=>Nat.blt o N
 | .eF _ _=>true
theorem lq {N:Nat} {x:Ref} (h:E1 N x=true) {g g':G} (k:x6 N g g'):g'.bm x.id=g.bm x.id:=by
 cases x with
 | loc o=>exact k.bm o (.inl (a_ h))
 | eF r j=>exact k.bm _ (.inr (Nat.not_lt.2 (nw r j)))
def okF (p:A→Bool):Nat→Tr A→Bool
 | 0,_=>true
 | n+1,F=>p (bf F.get n) && okF p n F
theorem CR {p:A→Bool} {F:Tr A}:∀{n:Nat},okF p n F=true→∀i,i<n→p (bf F.get i)=true
 | n+1,h,i,hi=>by
  have h:(p (bf F.get n) && okF p n F)=true:=h
  rw [zC] at h
  by_cases e:i=n
  ·rw [e];exact h.1
  ·exact CR h.2 i (by omega)
def tN (N:Nat):Nat→A→Bool
 | 0,_=>false
 | k+1,a=>match a with
  | .agg cs=>cs.all (tN N k)
  | .jt cs=>cs.all (tN N k)
  | .fn _ fi ca=>fi.all (tN N k) && ca.all (tN N k)
  | .ptr o _=>Nat.blt o N
  | .tp x _=>E1 N x
  | .sl o _ _ _=>Nat.blt o N
  | .ts x _ _ _=>E1 N x
  | .tf x _ _ _=>E1 N x
  | .tw x _=>E1 N x
  | .aa x _ _ _=>E1 N x
  | .mp x=>E1 N x
  | .rL q n F _ _ _ _=>Nat.blt q N && okF (tN N k) n F
  | _=>true
theorem VP.tp {N:Nat} {x:Ref} {π:List Sp} (h:E1 N x=true):VP N (.tp x π):=fun g g' v k hv=>by
 cases hv with
 | tp _ _ b s h1 hk=>exact .tp x π b s ((lq h k).trans h1) hk
theorem VP.tw {N:Nat} {x:Ref} {z:Nat} (h:E1 N x=true):VP N (.tw x z):=fun g g' v k hv=>by
 cases hv with
 | sr _ _ ad h1=>exact .sr x z ad ((lq h k).trans h1)
 | tw _ _ n b cap t h1 hn hx hp d hd=>exact .tw x z n b cap t ((lq h k).trans h1) hn hx hp d hd
theorem VP.e0 {N:Nat}:VP N .e0:=fun g g' v k hv=>by cases hv;exact .e0 _
theorem VP.mp {N:Nat} {x:Ref} (h:E1 N x=true):VP N (.mp x):=fun g g' v k hv=>by
 cases hv with
 | mp _ b s h1=>exact .mp x b s ((lq h k).trans h1)
theorem gh {N:Nat}:∀(k:Nat) (a:A),tN N k a=true→VP N a
 | 0,_,h=>by cases h
 | k+1,.v x,_=>fun g g' v _ hv=>by cases hv;exact .v _
 | k+1,.agg cs,h=>fun g g' v hg hv=>by
  have h:cs.all (tN N k)=true:=h
  rw [List.all_eq_true] at h
  cases hv with
  | agg _ vs hl h1 hh=>exact .agg cs vs hl h1 (fun i c x e1 e2=>gh k c (h c (zG e1)) g g' x hg (hh i c x e1 e2))
 | k+1,.jt cs,h=>fun g g' v hg hv=>by
  have h:cs.all (tN N k)=true:=h
  rw [List.all_eq_true] at h
  cases hv with
  | jt _ vs hl hh=>exact .jt cs vs hl (fun i c x e1 e2=>gh k c (h c (zG e1)) g g' x hg (hh i c x e1 e2))
 | k+1,.fn f fi ca,h=>fun g g' v hg hv=>by
  have h:(fi.all (tN N k) && ca.all (tN N k))=true:=h
  rw [zC,List.all_eq_true,List.all_eq_true] at h
  cases hv with
  | fn _ _ _ fv cv hf hc h1 h2=>exact .fn f fi ca fv cv hf hc (fun i c x e1 e2=>gh k c (h.1 c (zG e1)) g g' x hg (h1 i c x e1 e2)) (fun i c x e1 e2=>gh k c (h.2 c (zG e1)) g g' x hg (h2 i c x e1 e2))
 | k+1,.ptr o off,h=>fun g g' v hg hv=>by
  cases hv with
  | ptr _ _ b s h1=>exact .ptr o off b s ((hg.bm o (.inl (a_ h))).trans h1)
 | k+1,.tp x π,h=>.tp h
 | k+1,.sl o off z n,h=>fun g g' v hg hv=>by
  cases hv with
  | sl _ _ _ _ b cap s h1 hn hx hs=>exact .sl o off z n b cap s ((hg.bm o (.inl (a_ h))).trans h1) hn hx hs
 | k+1,.ts x z off n,h=>fun g g' v hg hv=>by
  cases hv with
  | ts _ _ _ _ b cap s h1 hn hx hs hp d hd hq=>exact .ts x z off n b cap s ((lq h hg).trans h1) hn hx hs hp d hd hq
  | su _ _ _ _ ad h1 hn=>exact .su x z off n ad ((lq h hg).trans h1) hn
 | k+1,.tf x z off n,h=>fun g g' v hg hv=>by
  cases hv with
  | tf _ _ _ _ b s h1 hx hs d hd=>exact .tf x z off n b s ((lq h hg).trans h1) hx hs d hd
  | B0 _ _ _ _ ad h1 hn=>exact .B0 x z off n ad ((lq h hg).trans h1) hn
 | k+1,.tw x z,h=>.tw h
 | k+1,.aa x π n z,h=>fun g g' v hg hv=>by
  cases hv with
  | aa _ _ _ _ b cap s h1 hk hn hx=>exact .aa x π n z b cap s ((lq h hg).trans h1) hk hn hx
 | k+1,.e0,_=>.e0
 | k+1,.tl t f l,_=>fun g g' v hg hv=>by
  cases hv with
  | tl _ _ _ _ h=>exact .tl t f l v (by rw [hg.mem];exact h)
 | k+1,.nn t l,_=>fun g g' v hg hv=>by
  cases hv with
  | nn _ _ a n c h=>exact .nn t l a n c (by rw [hg.mem];exact h)
 | k+1,.dp t x,_=>fun g g' v hg hv=>by
  cases hv with
  | dp _ _ b off f hm=>exact .dp t x b off f (fun j c e=>by rw [hg.mem];exact hm j c e)
 | k+1,.mp x,h=>.mp h
 | k+1,.op r o,_=>fun g g' v hg hv=>by
  cases hv with
  | op _ _ _ h0 h1=>exact .op r o v h0 (fun j e=>VP.tp (N:=N) (x:=.eF r j) rfl g g' v hg (h1 j e))
 | k+1,.os r z o,_=>fun g g' v hg hv=>by
  cases hv with
  | os _ _ _ _ h0 h1=>exact .os r z o v (fun e=>VP.e0 (N:=N) g g' v hg (h0 e)) (fun j e=>VP.tw (N:=N) (x:=.eF r j) rfl g g' v hg (h1 j e))
 | k+1,.om r o,_=>fun g g' v hg hv=>by
  cases hv with
  | om _ _ _ h0 h1=>exact .om r o v h0 (fun j e=>VP.mp (N:=N) (x:=.eF r j) rfl g g' v hg (h1 j e))
 | k+1,.rL q n F ps j aa bd,h=>fun g g' v hg hv=>by
  have h:(Nat.blt q N && okF (tN N k) n F)=true:=h
  rw [zC] at h
  cases hv with
  | rL _ _ _ _ _ _ _ b s l h0 hl h1 h2 h3 h4 h5=>exact .rL q n F ps j aa bd b s l ((hg.bm q (.inl (a_ h.1))).trans h0) (by rw [hg.lp];exact hl) h1 h2 h3 h4 (fun i hi=>gh k _ (CR h.2 i hi) g g' _ hg (h5 i hi))
 | k+1,.un,_=>fun g g' v _ hv=>by cases hv;exact .un
 | k+1,.cI,_=>fun g g' v _ _=>.cI v
theorem iO {N:Nat}:∀(t:Ty) (x:t.T),∀c∈aA t x,VP N c
 | .int k,x,c,h=>by rcases zF.1 h with rfl;exact gh 1 _ rfl
 | .bool,x,c,h=>by rcases zF.1 h with rfl;exact gh 1 _ rfl
 | .unit,_,c,h=>by cases h
 | .pair a b,x,c,h=>(zX.1 h).elim (iO a x.1 c) (iO b x.2 c)
 | .arr n t,l,c,h=>by
  obtain ⟨i,_,h⟩:=List.mem_flatMap.1 h
  exact iO t _ c h
 | .aJ t,l,c,h=>by rcases zF.1 h with rfl;exact gh 1 _ rfl
 | .ptr r,x,c,h=>by rcases zF.1 h with rfl;exact gh 1 _ rfl
 | .dT r,j,c,h=>by rcases zF.1 h with rfl;exact gh 1 _ rfl
 | .jQ r z,x,c,h=>by rcases zF.1 h with rfl;exact gh 1 _ rfl
 | .oS r z,j,c,h=>by rcases zF.1 h with rfl;exact gh 1 _ rfl
 | .mp r,x,c,h=>by rcases zF.1 h with rfl;exact gh 1 _ rfl
theorem og {N:Nat} (a:Bool) (t:Ty) (x:t.T):VP N (bY a t x):=by
 unfold bY
 have h:=iO (N:=N) t x
 cases a with
 | true=>
  intro g g' v hg hv
  cases hv with
  | agg _ vs hl h1 hh=>exact .agg _ vs hl h1 (fun i c y e1 e2=>h c (zG e1) g g' y hg (hh i c y e1 e2))
 | false=>
  generalize aA t x=cs at h
  match cs,h with
  | [c],h=>exact h c (.head _)
  | [],_=>exact fun g g' v _ _=>.cI v
  | _::_::_,_=>exact fun g g' v _ _=>.cI v
def E2 (N:Nat):Ob→Prop
 | .cells cs=>∀c∈cs,VP N c
 | .cN (.map es)=>∀e∈es,VP N e.1∧VP N e.2
 | .cN .zd=>True
 | .cN (.loop _ _)=>True
theorem Cn {N:Nat} {k:RK} {c:k.T} {j:Nat} {x:Ob} (h:dP k c j=some x):E2 N x:=by
 cases k with
 | box t=>
  simp only [dP] at h
  split at h
  ·cases h;exact iO t _
  ·cases h
 | row t=>
  simp only [dP] at h
  split at h
  ·cases h;exact fun c hc=>by obtain ⟨y,_,hy⟩:=List.mem_flatMap.1 hc;exact iO t y c hy
  ·cases h
 | map ka tk va tv=>
  simp only [dP] at h
  split at h
  ·cases h;exact fun e he=>by obtain ⟨y,_,rfl⟩:=List.mem_map.1 he;exact ⟨og _ _ _,og _ _ _⟩
  ·cases h
def Xs (g:G):Option (Option Nat)→Option (Option Nat×(Nat×Nat))
 | some (some o)=>g.bm o
 | some none=>some (none,(0,0))
 | none=>none
def gj (N:Nat) (names:List (Option Nat)) (g:G):G:=⟨fun i=>if i<N∨¬i<cJ then g.bm i else Xs g names[i-N]?,g.mem,g.lp⟩
theorem DR (N:Nat) (names:List (Option Nat)) (g:G):x6 N g (gj N names g):=⟨fun i h=>if_pos h,rfl,rfl⟩
theorem vX {N:Nat} {names:List (Option Nat)} {g:G} {k:Nat} {nm:Option Nat} (h:names[k]?=some nm) (hl:N+names.length≤cJ):(gj N names g).bm (N+k)=Xs g (some nm):=by
 have hk:=(zB.1 h).1
 show (if N+k<N∨¬N+k<cJ then g.bm (N+k) else _)=_
 rw [if_neg (by omega),Nat.add_sub_cancel_left,h]
theorem mD.to {g g':G} {w:World} {b t:Nat} {cs:List A} (h:mD g w b t cs) {N:Nat} (hs:x6 N g g') (hc:∀c∈cs,VP N c):mD g' w b t cs:=by
 obtain ⟨cur,ty,k1,k2,k3,k4⟩:=h
 exact ⟨cur,ty,k1,k2,k3,fun j c x e1 e2=>⟨hc c (zG e1) g g' x hs (k4 j c x e1 e2).1,(k4 j c x e1 e2).2⟩⟩
theorem oN.to {g g':G} {x:Mx} {ob:Obj} (h:oN g x ob) {N:Nat} (hs:x6 N g g') (hc:E2 N (.cN x)):oN g' x ob:=by
 cases x with
 | map es=>
  obtain ⟨jg,clock,k1,k2,k3⟩:=h
  exact ⟨jg,clock,k1,k2,fun i e q e1 e2=>⟨(hc q (zG e2)).1 g g' _ hs (k3 i e q e1 e2).1,(hc q (zG e2)).2 g g' _ hs (k3 i e q e1 e2).2⟩⟩
 | zd=>exact h
 | loop=>exact h
theorem Ka {N:Nat} {names:List (Option Nat)} {S S' S0:Hp} {g g0:G} {w w0:World} (hl:N+names.length≤cJ)
  (h1:∀i x,stay N i→S'.ob i=some x→(S.ob i=some x∧E2 N x)∨∃cs hH,S.ob i=some (.cells cs)∧x = .cells hH∧hH.length=cs.length∧∀vs,Vs g cs vs→Vs (gj N names g) hH vs)
  (h2:∀i x,¬stay N i→S'.ob i=some x→∃k nm,i=N+k∧names[k]?=some nm∧(∀o,nm=some o→S.ob o=some x∧E2 N x)∧(nm=none→x = .cells []))
  (h3:∀(k k' o:Nat),names[k]?=some (some o)→names[k']?=some (some o)→k=k')
  (h4:∀(k o:Nat),names[k]?=some (some o)→stay N o→S'.ob o=none)
  (h5:∀i,S'.fr i→(¬stay N i→N+names.length≤i)∧(stay N i→S.fr i))
  (hf:∀o,N≤o→o<cJ→S0.fr o∧g0.bm o=none) (hI:Inv g S w) (hE:Ext S0 g0 w0 S g w) :
  Inv (gj N names g) S' w∧Ext S0 g0 w0 S' (gj N names g) w:=by
 have hs:=DR N names g
 have ns:∀{i},¬stay N i→N≤i∧i<cJ:=fun {i} h=>by unfold stay at h;omega
 have Rc:∀i,¬stay N i→(gj N names g).bm i=Xs g names[i-N]?:=fun i h=>if_neg h
 have src:∀i x b s,S'.ob i=some x→(gj N names g).bm i=some (some b,s)→∃o y,S.ob o=some y∧g.bm o=some (some b,s)∧(i=o∧stay N i∨¬stay N i∧∃k,i=N+k∧names[k]?=some (some o)):=fun i x b s e1 e2=>by
  by_cases hi:stay N i
  ·rcases h1 i x hi e1 with ⟨q1,q2⟩ | ⟨cs,hH,q1,_,_⟩
   ·exact ⟨i,x,q1,by rw [←hs.bm i hi];exact e2,.inl ⟨rfl,hi⟩⟩
   ·exact ⟨i,_,q1,by rw [←hs.bm i hi];exact e2,.inl ⟨rfl,hi⟩⟩
  ·obtain ⟨k,nm,rfl,hk,q1,q2⟩:=h2 i x hi e1
   rw [vX hk hl] at e2
   cases nm with
   | none=>cases e2
   | some o=>exact ⟨o,x,(q1 o rfl).1,e2,.inr ⟨hi,k,rfl,hk⟩⟩
 have inj:∀i j x y b s s',S'.ob i=some x→S'.ob j=some y→(gj N names g).bm i=some (some b,s)→(gj N names g).bm j=some (some b,s')→i=j:=fun i j x y b s s' e1 e2 k1 k2=>by
  obtain ⟨o1,x1,p1,p3,p4⟩:=src i x b s e1 k1
  obtain ⟨o2,x2,q1,q3,q4⟩:=src j y b s' e2 k2
  have ho:=hI.inj o1 o2 x1 x2 b s s' p1 q1 p3 q3
  subst ho
  rcases p4 with ⟨rfl,p5⟩ | ⟨p5,k,rfl,p6⟩
  ·rcases q4 with ⟨rfl,_⟩ | ⟨q5,k',rfl,q6⟩
   ·rfl
   ·rw [h4 k' i q6 p5] at e1;cases e1
  ·rcases q4 with ⟨rfl,q5⟩ | ⟨q5,k',rfl,q6⟩
   ·rw [h4 k j p6 q5] at e2;cases e2
   ·rw [h3 k k' o1 p6 q6]
 refine ⟨⟨fun i cs e=>?_,fun i x e=>?_,fun i e=>?_,fun i b s e=>?_,inj,hI.mem,fun i b s j x e k=>?_,hI.lp⟩,⟨⟨fun o p e=>?_,fun _ _ _ e=>hE.le.mem _ _ _ e,fun _ _ e=>hE.le.lp _ _ e⟩,hE.os,hE.tape,hE.output,hE.size,hE.frame,fun k ⟨i,s,x,e1,e2⟩=>?_,fun o p e=>?_,fun o e=>?_,hE.tR,hE.lpo⟩⟩
 ·by_cases hi:stay N i
  ·rw [hs.bm i hi]
   rcases h1 i _ hi e with ⟨q1,q2⟩ | ⟨ds,iW,q1,q2,q3,q4⟩
   ·exact (hI.cells i cs q1).imp id fun ⟨b,t,k1,k2⟩=>⟨b,t,k1,k2.to hs q2⟩
   ·cases q2
    rcases hI.cells i ds q1 with ⟨k1,k2⟩ | ⟨b,t,k1,cur,ty,k2,k3,k4⟩
    ·exact .inl ⟨k1,List.length_eq_zero_iff.1 (by rw [q3,k2];rfl)⟩
    ·exact .inr ⟨b,t,by rw [q3];exact k1,cur,ty,k2,k3,by rw [q3];exact q4 _ k4⟩
  ·obtain ⟨k,nm,rfl,hk,q1,q2⟩:=h2 i _ hi e
   rw [vX hk hl]
   cases nm with
   | none=>
    have:=q2 rfl
    cases this
    exact .inl ⟨rfl,rfl⟩
   | some o=>
    obtain ⟨q3,q4⟩:=q1 o rfl
    exact (hI.cells o cs q3).imp id fun ⟨b,t,k1,k2⟩=>⟨b,t,k1,k2.to hs q4⟩
 ·by_cases hi:stay N i
  ·rcases h1 i _ hi e with ⟨q1,q2⟩ | ⟨ds,iW,q1,q2,q3⟩
   ·obtain ⟨b,s,ob,k1,k2,k3⟩:=hI.cN i x q1
    exact ⟨b,s,ob,(hs.bm i hi).trans k1,k2,k3.to hs q2⟩
   ·cases q2
  ·obtain ⟨k,nm,rfl,hk,q1,q2⟩:=h2 i _ hi e
   cases nm with
   | none=>have:=q2 rfl;cases this
   | some o=>
    obtain ⟨q3,q4⟩:=q1 o rfl
    obtain ⟨b,s,ob,k1,k2,k3⟩:=hI.cN o x q3
    exact ⟨b,s,ob,(vX hk hl).trans k1,k2,k3.to hs q4⟩
 ·obtain ⟨q1,q2⟩:=h5 i e
  by_cases hi:stay N i
  ·rw [hs.bm i hi];exact hI.fresh i (q2 hi)
  ·rw [Rc i hi,zb (by have:=q1 hi;omega)];rfl
 ·by_cases hi:stay N i
  ·rw [hs.bm i hi] at e;exact hI.lt i b s e
  ·rw [Rc i hi] at e
   generalize names[i-N]?=nm at e
   match nm,e with
   | some (some o),e=>exact hI.lt o b s e
 ·obtain ⟨o,y,p1,p3,_⟩:=src i x b s e k
  exact hI.lr o b s j y p1 p3
 ·have hi:stay N o:=by
   by_cases hi:stay N o
   ·exact hi
   ·obtain ⟨a1,a2⟩:=ns hi
    rw [(hf o a1 a2).2] at e;cases e
  rw [hs.bm o hi];exact hE.le.bm o p e
 ·obtain ⟨o,y,p1,p3,_⟩:=src i x k s e1 e2
  exact hE.own k ⟨o,s,y,p1,p3⟩
 ·by_cases hi:stay N o
  ·rw [hs.bm o hi] at e;exact hE.JF o p e
  ·obtain ⟨a1,a2⟩:=ns hi
   exact .inr ⟨(hf o a1 a2).2,(hf o a1 a2).1⟩
 ·by_cases hi:stay N o
  ·exact hE.fr o ((h5 o e).2 hi)
  ·obtain ⟨a1,a2⟩:=ns hi
   exact (hf o a1 a2).1
end
end Go.Bm