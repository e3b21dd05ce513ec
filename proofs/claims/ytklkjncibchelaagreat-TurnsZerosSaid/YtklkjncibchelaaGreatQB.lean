/- Texts of one proof, put together: see each part. -/
import Derived.Test.YtklkjncibchelaaGreatQA
set_option maxHeartbeats 2000000
noncomputable section
set_option linter.unusedVariables false
set_option linter.unusedSimpArgs false
namespace Go.Bm
section
open Go.RowKit
theorem l8 {s:Nat}:∀(π σ:List Sp),Df s (π++σ)↔Df s π∧Df s σ
 | [],σ=>⟨fun h=>⟨trivial,h⟩,fun h=>h.2⟩
 | .fst::π,σ=>l8 π σ
 | .snd _::π,σ=>l8 π σ
 | .ix _ _::π,σ=>(and_congr_right fun _=>l8 π σ).trans and_assoc.symm
 | .ai _ _ _::π,σ=>(and_congr_right fun _=>l8 π σ).trans and_assoc.symm
theorem kr:∀(π σ:List Sp),dE (π++σ)=dE π+dE σ
 | [],σ=>(Nat.zero_add _).symm
 | .fst::π,σ=>kr π σ
 | .snd c::π,σ=>by show c+dE (π++σ)=c+dE π+dE σ;rw [kr π σ,Nat.add_assoc]
 | .ix i z::π,σ=>by show i*z+dE (π++σ)=i*z+dE π+dE σ;rw [kr π σ,Nat.add_assoc]
 | .ai i n z::π,σ=>by show i*z+dE (π++σ)=i*z+dE π+dE σ;rw [kr π σ,Nat.add_assoc]
section
variable {P:Program} {E:Env} {o:Oper} {ρ:Operand→A} {h:H} {β:Type} {K:A→H→Fp→Option β} {r:β}
theorem Step.Dm {h h':H} {T:Fp} {pv D_:A} (k:Step P o ρ h h' T pv) (hv:∀g v,V g pv v→V g D_ v):Step P o ρ h h' T D_ where
 out:=k.out
 rd:=k.rd
 ok:=fun S2 hS=>fun r g w a next Q hI hx K'=>k.ok S2 hS r g w a next Q hI hx (fun v g' w' h1 h2 h3=>K' v g' w' (hv _ _ h1) h2 h3)
def DD (v:A) (k:A→Option β):Option β:=match v with
 | .op r o=>opt o (k (.v (.pointer none))) (fun j=>k (.tp (.eH r j) []))
 | .os r z o=>opt o (k .e0) (fun j=>k (.tw (.eH r j) z))
 | .om r o=>opt o (k (.v (.map none))) (fun j=>k (.mp (.eH r j)))
 | v=>k v
theorem yc {v:A} {k:A→Option β} (hr:DD v k=some r):∃v',k v'=some r∧∀g x,V g v x→V g v' x:=by
 unfold DD at hr
 split at hr
 ·rcases iL hr with ⟨e,h1⟩ | ⟨j,e,h1⟩
  ·exact ⟨_,h1,fun g x hv=>by cases hv with | op _ _ _ h0 _=>rw [h0 e];exact .v _⟩
  ·exact ⟨_,h1,fun g x hv=>by cases hv with | op _ _ _ _ h0=>exact h0 j e⟩
 ·rcases iL hr with ⟨e,h1⟩ | ⟨j,e,h1⟩
  ·exact ⟨_,h1,fun g x hv=>by cases hv with | os _ _ _ _ h0 _=>exact h0 e⟩
  ·exact ⟨_,h1,fun g x hv=>by cases hv with | os _ _ _ _ _ h0=>exact h0 j e⟩
 ·rcases iL hr with ⟨e,h1⟩ | ⟨j,e,h1⟩
  ·exact ⟨_,h1,fun g x hv=>by cases hv with | om _ _ _ h0 _=>rw [h0 e];exact .v _⟩
  ·exact ⟨_,h1,fun g x hv=>by cases hv with | om _ _ _ _ h0=>exact h0 j e⟩
 ·exact ⟨_,hr,fun g x hv=>hv⟩
def Out (P:Program) (o:Oper) (ρ:Operand→A) (h:H) (K:A→H→Fp→Option β) (r:β):Prop:=∃pv h' T,K pv h' T=some r∧Step P o ρ h h' T pv
theorem Out.pure {v:A} (hr:K v h .no=some r) (k:∀S2,fc P o ρ S2 S2 v) (hd:∀c,o.op≠.defer c):Out P o ρ h K r:=⟨v,h,.no,hr,.pure k hd⟩
theorem Out.read {v:A} (T:List Nat) (hr:K v h (.rd T)=some r) (k:∀S2,Agree (.rd T) (hp h) S2→fc P o ρ S2 S2 v) (hd:∀c,o.op≠.defer c):Out P o ρ h K r:=⟨v,h,.rd T,hr,.read _ k hd⟩
theorem Out.sp {h':H} {T:Fp} {v:A} (hr:DD v (fun v=>K v h' T)=some r) (k:Step P o ρ h h' T v):Out P o ρ h K r:=by
 obtain ⟨v',h1,h2⟩:=yc hr
 exact ⟨v',h',T,h1,k.Dm h2⟩
def mvK (x:A) (h:H) (K:A→H→Fp→Option β):Option β:=K x h .no
def NP (px:A) (ix:Nat) (h:H) (K:A→H→Fp→Option β):Option β:=match px with
 | .jy cs=>match cs[ix]? with
  | some p=>DD p (fun v=>K v h .no)
  | none=>none
 | _=>none
theorem I8 {x:Operand} {ix:Nat} (ho:o.op = .extract x ix) (hr:NP (ρ x) ix h K=some r):Out P o ρ h K r:=by
 unfold NP at hr
 split at hr
 ·rename_i cs hx
  split at hr
  ·rename_i p hp
   exact .sp hr (.pure (fun S2=>wF ho hx hp) (by rw [ho];intro c e;cases e))
  ·cases hr
 ·cases hr
def Ej (px py pz:A) (h:H) (K:A→H→Fp→Option β):Option β:=match px with
 | .v (.bool b)=>br b (K py h .no) (K pz h .no)
 | _=>none
theorem Ei {x y z:Operand} (ho:o.op = .pick x y z) (hr:Ej (ρ x) (ρ y) (ρ z) h K=some r):Out P o ρ h K r:=by
 unfold Ej at hr
 split at hr
 ·rename_i b hx
  rcases la hr with ⟨rfl,h1⟩ | ⟨rfl,h1⟩
  ·exact .pure h1 (fun S2=>by have:=wC (P:=P) (S:=S2) ho hx;simpa using this) (by rw [ho];intro c e;cases e)
  ·exact .pure h1 (fun S2=>by have:=wC (P:=P) (S:=S2) ho hx;simpa using this) (by rw [ho];intro c e;cases e)
 ·cases hr
def Ya (op:BinOp) (k:IntKind) (m n:Int) (K:Value→Option β):Option β:=match op with
 | .add=>K (.int k (ae k m n))
 | .sub=>K (.int k (aE k m n))
 | .mul=>K (.int k (cm k m n))
 | .quo=>gd (IB n) (K (.int k (mv k m n)))
 | .rem=>gd (IB n) (K (.int k (cq m n)))
 | .and=>K (.int k (bits .and k m n))
 | .or=>K (.int k (bits .or k m n))
 | .xor=>K (.int k (bits .xor k m n))
 | .andNot=>K (.int k (bits .andNot k m n))
 | .eql=>K (.bool (ak m n))
 | .neq=>K (.bool (az (ak m n)))
 | .lss=>K (.bool (aQ m n))
 | .leq=>K (.bool (cP m n))
 | .gtr=>K (.bool (aQ n m))
 | .geq=>K (.bool (cP n m))
 | _=>none
theorem Jq {op:BinOp} {k:IntKind} {m n:Int} {K:Value→Option β} (hr:Ya op k m n K=some r):∃v,K v=some r∧IF op k m n=some v:=by
 cases op with
 | quo=>
  obtain ⟨h1,h2⟩:=bz (show gd (IB n) (K (.int k (mv k m n)))=some r from hr)
  exact ⟨_,h2,if_neg h1⟩
 | rem=>
  obtain ⟨h1,h2⟩:=bz (show gd (IB n) (K (.int k (cq m n)))=some r from hr)
  exact ⟨_,h2,if_neg h1⟩
 | _=>first | exact ⟨_,hr,rfl⟩ | cases hr
def shI (op:BinOp) (k:IntKind) (m n:Int) (K:Value→Option β):Option β:=match op with
 | .shl=>gd (bn n) (K (.int k (lU k m n)))
 | .shr=>gd (bn n) (K (.int k (j0 k m n)))
 | _=>none
theorem Mz {op:BinOp} {k:IntKind} {m n:Int} {K:Value→Option β} (hr:shI op k m n K=some r):∃v,K v=some r∧yD op k m n=some v:=by
 cases op with
 | shl=>
  obtain ⟨h1,h2⟩:=bz (show gd (bn n) (K (.int k (lU k m n)))=some r from hr)
  exact ⟨_,h2,if_neg (by unfold bn at h1;omega)⟩
 | shr=>
  obtain ⟨h1,h2⟩:=bz (show gd (bn n) (K (.int k (j0 k m n)))=some r from hr)
  exact ⟨_,h2,if_neg (by unfold bn at h1;omega)⟩
 | _=>cases hr
def LQ:BinOp→Bool
 | .shl=>true
 | .shr=>true
 | _=>false
def isEq:BinOp→Bool
 | .eql=>true
 | .neq=>true
 | _=>false
theorem lV {op:BinOp} (h:isEq op=true):op = .eql∨op = .neq:=by cases op<;>first | exact .inl rfl | exact .inr rfl | cases h
def Ce (op:BinOp) (b:Bool):Bool:=match op with
 | .eql=>b
 | _=>az b
theorem o5 {op:BinOp} (b:Bool) (h:isEq op=true):Ce op b=if op = .eql then b else !b:=by
 rcases lV h with rfl | rfl<;>rfl
def Cb (p q:A):Option Bool:=match q with
 | .v (.slice none 0 0)=>match p with
  | .v (.slice none _ _)=>some true
  | .nn _ _=>some false
  | .aa _ _ _ _=>some false
  | .sl _ _ _ _=>some false
  | _=>none
 | _=>none
theorem Ii {g:G} {p q:A} {u v:Value} {b:Bool} (h:Cb p q=some b) (hp:V g p u) (hq:V g q v):v = .slice none 0 0∧∃A n c,u = .slice A n c∧A.isNone=b:=by
 unfold Cb at h
 split at h
 ·cases hq
  refine ⟨rfl,?_⟩
  split at h
  ·cases h;cases hp;exact ⟨_,_,_,rfl,rfl⟩
  ·cases h;cases hp;exact ⟨_,_,_,rfl,rfl⟩
  ·cases h;cases hp;exact ⟨_,_,_,rfl,rfl⟩
  ·cases h;cases hp;exact ⟨_,_,_,rfl,rfl⟩
  ·cases h
 ·cases h
theorem DT (d:Nat) (w:World) {T E:TypeId} (hT:P.underlying T=some (.slice E)) (A:Option Addr) (n c:Nat):(Op.equalIn (d+1) T (.slice A n c) (.slice none 0 0)).run P w = .ok A.isNone w:=by
 cases A<;>simp [Op.equalIn,run_underlying hT]
theorem z8 (w:World) {T E:TypeId} (hT:P.underlying T=some (.slice E)) (A:Option Addr) (n c:Nat):(Op.equalIn 10000 T (.slice A n c) (.slice none 0 0)).run P w = .ok A.isNone w:=DT 9999 w hT A n c
theorem H8 {S:Hp} {op:BinOp} {T T' E:TypeId} {x y:Operand} {b:Bool} (ho:o.op = .binOp op T x y T') (hT:P.underlying T=some (.slice E)) (mN:op = .eql∨op = .neq)
  (hb:Cb (ρ x) (ρ y)=some b):fc P o ρ S S (.v (.bool (if op = .eql then b else !b))):=
 .value fun g w a _ hv=>by
  obtain ⟨e2,A,n,c,h1,h2⟩:=Ii hb (hv x (by simp [ho,Op.operands])) (hv y (by simp [ho,Op.operands]))
  have eL:=z8 (P:=P) w hT A n c
  rw [h2] at eL
  refine ⟨.bool (if op = .eql then b else !b),?_,.v _⟩
  have kz:(eqGuard op T x y (.slice A n c) (.slice none 0 0)).run P w = .ok () w:=by
   rcases mN with rfl | rfl<;>rfl
  rcases mN with rfl | rfl
  ·have hb:(binOp .eql T (.slice A n c) (.slice none 0 0)).run P w = .ok (.bool b) w:=by
    simp only [binOp];simp [Op.equal,Op.maxDepth,eL]
   simp only [execOp,ho,h1,e2,Sem.run_bind,kz,Result.andThen_ok,if_true,hb,Sem.run_pure]
  ·have hb:(binOp .neq T (.slice A n c) (.slice none 0 0)).run P w = .ok (.bool (!b)) w:=by
    simp only [binOp];simp [Op.equal,Op.maxDepth,eL]
   simp only [execOp,ho,h1,e2,Sem.run_bind,kz,Result.andThen_ok,hb,Sem.run_pure]
   rfl
def Gs (E:Env) (op:BinOp) (T:Nat) (px py:A) (h:H) (K:A→H→Fp→Option β):Option β:=match px,py with
 | .v (.int k m),.v (.int k' n)=>bif LQ op then shI op k m n (fun v=>K (.v v) h .no) else if k=k' then Ya op k m n (fun v=>K (.v v) h .no) else none
 | .v (.bool p),.v (.bool q)=>bif isEq op then (match cu E.dP T with
  | some ⟨.bool,_,_,_,_,_,_⟩=>K (.v (.bool (Ce op (qP p q)))) h .no
  | _=>none) else none
 | px,py=>bif isEq op then (match cu E.dP T with
  | some e=>match e.d with
   | .pointer _=>match ED px py with
    | some b=>K (.v (.bool (Ce op b))) h .no
    | none=>none
   | .slice _=>match Cb px py with
    | some b=>K (.v (.bool (Ce op b))) h .no
    | none=>none
   | .struct _=>bif iO px && iO py && E.eqs.any (Nat.beq T) then (match px.cells,py.cells with
    | some cs,some ds=>match vN E 6 T cs ds with
     | some b=>K (.v (.bool (Ce op b))) h .no
     | none=>none
    | _,_=>none) else none
   | _=>none
  | none=>none) else none
theorem vp (hE:bT P E) {op:BinOp} {T T':TypeId} {x y:Operand} (ho:o.op = .binOp op T x y T') (hr:Gs E op T (ρ x) (ρ y) h K=some r):Out P o ρ h K r:=by
 have hd:∀c,o.op≠.defer c:=by rw [ho];intro c e;cases e
 unfold Gs at hr
 split at hr
 ·rename_i k m k' n hx hy
  cases hs:LQ op with
  | true=>
   rw [hs] at hr
   simp only [cond_true] at hr
   obtain ⟨v,h1,h2⟩:=Mz hr
   exact .pure h1 (fun S2=>BY ho hx hy h2) hd
  | false=>
   rw [hs] at hr
   simp only [cond_false] at hr
   split at hr
   ·rename_i hk;subst hk
    obtain ⟨v,h1,h2⟩:=Jq hr
    exact .pure h1 (fun S2=>H_ ho hx hy h2) hd
   ·cases hr
 ·rename_i p q hx hy
  obtain ⟨hq,hr⟩:=af hr
  split at hr
  ·rename_i ht
   refine .pure hr (fun S2=>?_) hd
   have:=H9 (P:=P) (S:=S2) ho (hE.dP _ _ ht).u hx hy (lV hq)
   rw [o5 _ hq]
   rcases lV hq with rfl | rfl<;>exact this
  ·cases hr
 ·obtain ⟨hq,hr⟩:=af hr
  split at hr
  ·rename_i e ht
   split at hr
   ·rename_i el Da
    split at hr
    ·rename_i b hb
     refine .pure hr (fun S2=>?_) hd
     rw [o5 _ hq]
     exact B0 ho (by rw [(hE.dP _ _ ht).u,Da]) hb (lV hq)
    ·cases hr
   ·rename_i el Da
    split at hr
    ·rename_i b hb
     refine .pure hr (fun S2=>?_) hd
     rw [o5 _ hq]
     exact H8 ho (by rw [(hE.dP _ _ ht).u,Da]) (lV hq) hb
    ·cases hr
   ·rename_i fs Da
    obtain ⟨hc,hr⟩:=af hr
    simp only [zC] at hc
    split at hr
    ·rename_i cs ds h1 h2
     split at hr
     ·rename_i b hb
      refine .pure hr (fun S2=>?_) hd
      rw [o5 _ hq]
      exact B1 hE ho ht (by rw [Da];rfl) (hE.eqs _ hc.2) hc.1.1 hc.1.2 h1 h2 hb (by omega) (lV hq)
     ·cases hr
    ·cases hr
   ·cases hr
  ·cases hr
def Zl (op:UnOp) (px:A) (h:H) (K:A→H→Fp→Option β):Option β:=match op,px with
 | .not,.v (.bool b)=>K (.v (.bool (az b))) h .no
 | _,_=>none
theorem Mt {op:UnOp} {T:TypeId} {x:Operand} (ho:o.op = .unOp op T x) (hr:Zl op (ρ x) h K=some r):Out P o ρ h K r:=by
 unfold Zl at hr
 split at hr
 ·rename_i b hx
  exact .pure hr (fun S2=>H3 ho hx) (by rw [ho];intro c e;cases e)
 ·cases hr
def agI (E:Env) (s d:Nat) (px:A) (h:H) (K:A→H→Fp→Option β):Option β:=match cu E.dP s,cu E.dP d,px with
 | some _,some ⟨.int k',_,_,_,_,_,_⟩,.v (.int k n)=>if k'=k then K (.v (.int k n)) h .no else K (.v (.int k' (cS k' n))) h .no
 | _,_,_=>none
def cvK (E:Env) (s d:Nat) (px:A) (h:H) (K:A→H→Fp→Option β):Option β:=match cu E.dP s,cu E.dP d,px with
 | some _,some ⟨.int k',_,_,_,_,_,_⟩,.v (.int _ n)=>K (.v (.int k' (cS k' n))) h .no
 | _,_,_=>none
theorem N1 (hE:bT P E) {s d:TypeId} {x:Operand} (ho:o.op = .convert s d x) (hr:cvK E s d (ρ x) h K=some r):Out P o ρ h K r:=by
 unfold cvK at hr
 split at hr
 ·rename_i es _ _ _ _ _ _ _ _ _ hs nI hx
  exact .pure hr (fun S2=>Eu ho (by rw [(hE.dP _ _ hs).u];rfl) (hE.dP _ _ nI).u hx) (by rw [ho];intro c e;cases e)
 ·cases hr
def Us (px:A) (h:H) (K:A→H→Fp→Option β):Option β:=bif E1 px then K px h .no else none
theorem Ik {x:Operand} (ho:o.op = .nilCheck x) (hr:Us (ρ x) h K=some r):Out P o ρ h K r:=by
 obtain ⟨h1,h2⟩:=af hr
 exact .pure h2 (fun S2=>uB ho h1) (by rw [ho];intro c e;cases e)
end
end
set_option linter.unusedVariables false
set_option linter.unusedSimpArgs false
section
open Go.RowKit
section
variable {P:Program} {E:Env} {o:Oper} {ρ:Operand→A} {h:H} {β:Type} {K:A→H→Fp→Option β} {r:β}
def l5:Nat→Ty→Nat→Option (List Sp)
 | 1,_,0=>some []
 | _+2,.pair _ _,0=>some [.fst]
 | n+2,.pair a b,f+1=>match l5 (n+1) b f with
  | some π=>some (.snd a.size::π)
  | none=>none
 | _,_,_=>none
theorem vb {s:Nat}:∀(n:Nat) (t:Ty) (f:Nat) (π:List Sp),l5 n t f=some π→Df s π
 | 0,_,_,_,h=>by simp [l5] at h
 | 1,_,0,_,h=>by simp [l5] at h;subst h;trivial
 | 1,_,f+1,_,h=>by simp [l5] at h
 | n+2,.pair a b,0,_,h=>by simp [l5] at h;subst h;trivial
 | n+2,.pair a b,f+1,_,h=>by
  simp only [l5] at h
  split at h
  ·rename_i π' h'
   cases h
   exact vb (s:=s) (n+1) b f π' h'
  ·cases h
 | n+2,.int _,f,_,h=>by cases f<;>simp [l5] at h
 | n+2,.bool,f,_,h=>by cases f<;>simp [l5] at h
 | n+2,.unit,f,_,h=>by cases f<;>simp [l5] at h
 | n+2,.arr _ _,f,_,h=>by cases f<;>simp [l5] at h
 | n+2,.aF _,f,_,h=>by cases f<;>simp [l5] at h
 | n+2,.ptr _,f,_,h=>by cases f<;>simp [l5] at h
 | n+2,.cY _,f,_,h=>by cases f<;>simp [l5] at h
 | n+2,.je _ _,f,_,h=>by cases f<;>simp [l5] at h
 | n+2,.pM _ _,f,_,h=>by cases f<;>simp [l5] at h
 | n+2,.mp _,f,_,h=>by cases f<;>simp [l5] at h
def NK (E:Env) (T f:Nat) (px:A) (h:H) (K:A→H→Fp→Option β):Option β:=match cu E.dP T with
 | some ⟨.struct fs,_,_,_,_,t,_⟩=>match fs[f]? with
  | some fd=>match cu E.dP fd.type with
   | some e=>bif Nat.blt 0 e.size then (match px with
    | .ptr o off=>K (.ptr o (off+fd.offset)) h .no
    | .tp X π=>match t with
     | some t=>match l5 fs.size t f with
      | some σ=>bif Nat.beq (dE σ) fd.offset then K (.tp X (π++σ)) h .no else none
      | none=>none
     | none=>none
    | .dp t x=>match l5 fs.size t f with
     | some σ=>bif Nat.beq (dE σ) fd.offset then (match oB σ t x with
      | some s=>K (.dp s.t s.x) h .no
      | none=>none) else none
     | none=>none
    | _=>none) else none
   | none=>none
  | none=>none
 | _=>none
theorem I2 (hE:bT P E) {T f:Nat} {x:Operand} (ho:o.op = .fieldAddr T x f) (hr:NK E T f (ρ x) h K=some r):Out P o ρ h K r:=by
 have hd:∀c,o.op≠.defer c:=by rw [ho];intro c e;cases e
 unfold NK at hr
 split at hr
 ·rename_i fs _ _ _ _ t _ ht
  split at hr
  ·rename_i fd hf
   split at hr
   ·rename_i e he
    obtain ⟨h0,hr⟩:=af hr
    have h0:=aY h0
    have oh:∀{v:A},(∀g u,V g (ρ x) u→∃b off,u = .pointer (some ⟨b,off,none⟩)∧V g v (.pointer (some ⟨b,off+fd.offset,none⟩)))→∀S2,fc P o ρ S2 S2 v:=fun hv S2=>
     BZ ho (hE.dP _ _ ht).u hf (hE.dP _ _ he).ti.size (by omega) hv
    split at hr
    ·rename_i q off hx
     refine .pure hr (oh fun g u hu=>?_) hd
     rw [hx] at hu
     cases hu with
     | ptr _ _ b s hb=>exact ⟨b,off,rfl,.ptr _ _ b s hb⟩
    ·rename_i X π hx
     split at hr
     ·rename_i t'
      split at hr
      ·rename_i σ hσ
       obtain ⟨hc,hr⟩:=af hr
       refine .pure hr (oh fun g u hu=>?_) hd
       rw [hx] at hu
       cases hu with
       | tp _ _ b s hb hk=>
        refine ⟨b,dE π,rfl,?_⟩
        rw [←beq_eq hc,←kr]
        exact .tp X _ b s hb ((l8 π σ).2 ⟨hk,vb _ _ _ _ hσ⟩)
      ·cases hr
     ·cases hr
    ·rename_i t' y hx
     split at hr
     ·rename_i σ hσ
      obtain ⟨hc,hr⟩:=af hr
      split at hr
      ·rename_i sg hsg
       refine .pure hr (oh fun g u hu=>?_) hd
       rw [hx] at hu
       cases hu with
       | dp _ _ b off f hm=>
        obtain ⟨a,c,q1,q2⟩:=mQ σ t' y 0 sg hsg (vb _ _ _ _ hσ)
        refine ⟨b,off,rfl,.dp sg.t sg.x b _ (fun j=>f (dE σ+j)) (fun j d hj=>?_)⟩
        have:=hm (dE σ+j) d (by
         rw [q1,zJ (by omega),show dE σ+j-a.length=j by omega,zK (zB.1 hj).1];exact hj)
        rw [←beq_eq hc,Nat.add_assoc]
        exact this
      ·cases hr
     ·cases hr
    ·cases hr
   ·cases hr
  ·cases hr
 ·cases hr
def Yx:Nat→Nat→Int→(Nat→Option β)→Option β
 | 0,_,_,_=>none
 | n+1,i,m,k=>br (ak m (zN i)) (k i) (Yx n (i+1) m k)
theorem yb {m:Int} {k:Nat→Option β}:∀(n i:Nat),Yx n i m k=some r→∃j,k j=some r∧m=((j:Nat):Int)∧i≤j∧j<i+n
 | 0,i,h=>by cases h
 | n+1,i,h=>by
  rcases la h with ⟨e,h1⟩ | ⟨e,h1⟩
  ·exact ⟨i,h1,of_decide_eq_true e,Nat.le_refl _,by omega⟩
  ·obtain ⟨j,k1,k2,k3,k4⟩:=yb n (i+1) h1
   exact ⟨j,k1,k2,by omega,by omega⟩
def aao:Operand→Option Nat
 | .const (.int _ (.ofNat n))=>some n
 | _=>none
theorem nU {n:Int} (h:bn n):((nN n:Nat):Int)=n:=Int.toNat_of_nonneg h
def ixK (E:Env) (T:Nat) (px:A) (y:Operand) (py:A) (h:H) (K:A→H→Fp→Option β):Option β:=match py with
 | .v (.int _ n)=>match cu E.dP T with
  | some ⟨.array len el,_,_,_,_,_,_⟩=>match cu E.dP el with
   | some e=>match px with
    | .ptr q off=>match aao y with
     | some i=>gd (neq (nN n) i) (bif Nat.blt i len then gd (bn n) (K (.ptr q (off+i*e.size)) h .no) else none)
     | none=>Yx len 0 n (fun i=>K (.ptr q (off+i*e.size)) h .no)
    | .tp X π=>gd (bn n) (gd (bu (nN n) len) (K (.tp X (π++[.ai (nN n) len e.size])) h .no))
    | .dp t x=>gd (bn n) (gd (bu (nN n) len) (bif Nat.blt 0 e.size then (match oB [.ai (nN n) len e.size] t x with
     | some s=>K (.dp s.t s.x) h .no
     | none=>none) else none))
    | _=>none
   | none=>none
  | some ⟨.slice el,_,_,_,_,_,_⟩=>match cu E.dP el with
   | some e=>bif Nat.blt 0 e.size then (match px with
    | .tl t _ l=>bif Nat.beq t.size e.size then gd (bn n) (gd (bu (nN n) (len l)) (K (.dp t (nth t.cQ l (nN n))) h .no)) else none
    | .tw X z=>bif Nat.beq z e.size then jL h X (fun t l=>bif Nat.beq z t.size then gd (bn n) (gd (bu (nN n) (len l)) (K (.tp X [.ix (nN n) z]) h (.rd [jg X]))) else none) else none
    | .ts X z off m=>bif Nat.beq z e.size then gd (bn n) (gd (bu (nN n) m) (K (.tp X [.ix (aK off (nN n)) z]) h .no)) else none
    | .tf X z off m=>bif Nat.beq z e.size then gd (bn n) (gd (bu (nN n) m) (K (.tp X [.ix (aK off (nN n)) z]) h .no)) else none
    | .aa X π m z=>bif Nat.beq z e.size then gd (bn n) (gd (bu (nN n) m) (K (.tp X (π++[.ai (nN n) m z])) h .no)) else none
    | .sl q off z m=>bif Nat.beq z e.size then Yx m 0 n (fun i=>K (.ptr q (off+i*z)) h .no) else none
    | _=>none) else none
   | none=>none
  | _=>none
 | _=>none
theorem I3 {t:Ty} {l:List t.T} {i:Nat} (hi:i<l.length) {j:Nat} {c:D} (hj:(dh t (nth t.cQ l i))[j]?=some c):(l.map (dh t)).flatten[i*t.size+j]?=some c:=by
 have e:l=l.take i++nth t.cQ l i::l.drop (i+1):=by
  rw [show nth t.cQ l i=l[i] by simp [nth,zA,zD hi],List.getElem_cons_drop,zP]
 have hl:((l.take i).flatMap (dh t)).length=i*t.size:=by
  have:∀m:List t.T,(m.flatMap (dh t)).length=m.length*t.size:=fun m=>by
   induction m with
   | nil=>simp
   | cons a m ih=>rw [List.flatMap_cons,zY,ih,dY,zR,Nat.succ_mul,Nat.add_comm]
  rw [this,List.length_take,Nat.min_eq_left (Nat.le_of_lt hi)]
 rw [lC]
 conv=>lhs;rw [e]
 rw [List.flatMap_append,List.flatMap_cons,zJ (by omega),hl,show i*t.size+j-i*t.size=j by omega,zK (zB.1 hj).1]
 exact hj
theorem Nf (hE:bT P E) {T:Nat} {x y:Operand} (ho:o.op = .indexAddr T x y) (hr:ixK E T (ρ x) y (ρ y) h K=some r):Out P o ρ h K r:=by
 have hd:∀c,o.op≠.defer c:=by rw [ho];intro c e;cases e
 unfold ixK at hr
 split at hr
 ·rename_i k n hy
  split at hr
  ·rename_i len el _ _ _ _ _ _ ht
   split at hr
   ·rename_i e he
    have oh:∀{v:A},0≤n∧n<len→(∀g u,V g (ρ x) u→∃b off,u = .pointer (some ⟨b,off,none⟩)∧V g v (.pointer (some ⟨b,off+n.toNat*e.size,none⟩)))→∀S2,fc P o ρ S2 S2 v:=fun hn hv S2=>
     sU ho (hE.dP _ _ ht).u (hE.dP _ _ he).ti.size hy hn hv
    split at hr
    ·rename_i q off hx
     have ptr:∀i:Nat,n.toNat=i→∀g u,V g (ρ x) u→∃b Un,u = .pointer (some ⟨b,Un,none⟩)∧V g (.ptr q (off+i*e.size)) (.pointer (some ⟨b,Un+n.toNat*e.size,none⟩)):=fun i hi g u hu=>by
      rw [hx] at hu
      cases hu with
      | ptr _ _ b s hb=>exact ⟨b,off,rfl,by rw [hi];exact .ptr _ _ b s hb⟩
     split at hr
     ·rename_i i _
      obtain ⟨h1,hr⟩:=bz hr
      obtain ⟨h2,hr⟩:=af hr
      obtain ⟨h3,hr⟩:=bz hr
      have h4:=nU h3
      have h1:nN n=i:=h1
      have h5:=aY h2
      exact .pure hr (oh ⟨h3,by omega⟩ (ptr i h1)) hd
     ·obtain ⟨i,h1,h2,h3,h4⟩:=yb _ _ hr
      exact .pure h1 (oh ⟨by omega,by omega⟩ (ptr i (by omega))) hd
    ·rename_i X π hx
     obtain ⟨h3,hr⟩:=bz hr
     obtain ⟨h4,hr⟩:=bz hr
     have h5:=nU h3
     have h4:nN n<len:=h4
     refine .pure hr (oh ⟨h3,by omega⟩ (fun g u hu=>?_)) hd
     rw [hx] at hu
     cases hu with
     | tp _ _ b s hb hk=>
      refine ⟨b,dE π,rfl,?_⟩
      have:=V.tp (g:=g) X (π++[.ai (nN n) len e.size]) b s hb ((l8 π [.ai (nN n) len e.size]).2 ⟨hk,show nN n<len∧True from ⟨h4,trivial⟩⟩)
      rw [kr] at this
      exact this
    ·rename_i t z hx
     obtain ⟨h3,hr⟩:=bz hr
     obtain ⟨h4,hr⟩:=bz hr
     obtain ⟨_,hr⟩:=af hr
     have h5:=nU h3
     have h4:nN n<len:=h4
     split at hr
     ·rename_i sg hsg
      refine .pure hr (oh ⟨h3,by omega⟩ (fun g u hu=>?_)) hd
      rw [hx] at hu
      cases hu with
      | dp _ _ b off f hm=>
       obtain ⟨a,c,q1,q2⟩:=mQ _ t z 0 sg hsg ⟨h4,trivial⟩
       have q2:a.length=nN n*e.size:=q2
       refine ⟨b,off,rfl,.dp sg.t sg.x b _ (fun j=>f (nN n*e.size+j)) (fun j d hj=>?_)⟩
       have:=hm (nN n*e.size+j) d (by
        rw [q1,zJ (by omega),show nN n*e.size+j-a.length=j by omega,zK (zB.1 hj).1];exact hj)
       rw [Nat.add_assoc]
       exact this
     ·cases hr
    ·cases hr
   ·cases hr
  ·rename_i el _ _ _ _ _ _ ht
   split at hr
   ·rename_i e he
    obtain ⟨h0,hr⟩:=af hr
    have h0:=aY h0
    have oh:∀{v:A} {S2:Hp},(∀g w u,Inv g S2 w→V g (ρ x) u→∃b off m cap,u = .slice (some ⟨b,off,none⟩) m cap∧(0≤n∧n<m)∧V g v (.pointer (some ⟨b,off+n.toNat*e.size,none⟩)))→fc P o ρ S2 S2 v:=fun hv=>
     uD ho (hE.dP _ _ ht).u (hE.dP _ _ he).ti.size hy hv
    split at hr
    ·rename_i t f l hx
     obtain ⟨h1,hr⟩:=af hr
     obtain ⟨h3,hr⟩:=bz hr
     obtain ⟨h4,hr⟩:=bz hr
     have h5:=nU h3
     have h4:nN n<l.length:=h4
     refine .pure hr (fun S2=>oh (fun g w u hI hu=>?_)) hd
     rw [hx] at hu
     cases hu with
     | tl _ _ _ _ hv=>
      rw [←beq_eq h1] at *
      generalize qW:List.map (dh t) l=es at hv
      have qg:es.length=l.length:=by rw [←qW,zH]
      cases hv with
      | ui=>simp at qg;omega
      | sl _ _ _ a cap vs hz hc hf hn oz hl hm G6=>
       obtain ⟨p,rfl⟩:∃p,a=some p:=by
        cases a with
        | none=>have:=hn rfl;omega
        | some p=>exact ⟨p,rfl⟩
       refine ⟨p.1,p.2,es.length,cap,rfl,⟨h3,by omega⟩,.dp t _ p.1 _ (fun j=>vs.getD (nN n*t.size+j) undef) (fun j c hj=>?_)⟩
       have He:=I3 (t:=t) (l:=l) h4 hj
       rw [qW] at He
       have eO:=(zB.1 He).1
       have AH:vs[nN n*t.size+j]?=some (vs.getD (nN n*t.size+j) undef):=by
        rw [zA,zD (by rw [←hl];exact eO)];rfl
       refine ⟨?_,G6 _ c _ He AH⟩
       have:=hm p _ _ rfl AH
       rw [Nat.add_assoc];exact this
    ·rename_i X z hx
     obtain ⟨h1,hr⟩:=af hr
     obtain rfl:=beq_eq h1
     obtain ⟨t,l,hr,hX,fe⟩:=eX hr
     obtain ⟨h2,hr⟩:=af hr
     obtain ⟨h3,hr⟩:=bz hr
     obtain ⟨h4,hr⟩:=bz hr
     have h5:=nU h3
     have h4:nN n<l.length:=h4
     have h2:=beq_eq h2
     refine .read _ hr (fun S2 hA=>oh (fun g w u hI hu=>?_)) hd
     have dX:=(hA _ (bG hX (.head _))).1.trans fe
     rw [hx] at hu
     cases hu with
     | te _ _ ad bK=>
      rcases hI.cells _ _ dX with ⟨_,k2⟩ | ⟨b,tt,k1,_⟩
      ·have:=bb t l
       rw [k2] at this
       have:0<l.length*t.size:=Nat.mul_pos (by omega) (by omega)
       simp at *;omega
      ·rw [k1] at bK;cases bK
     | tw _ _ m b cap tt bK hn oz hp d nI=>
      rcases hI.cells _ _ dX with ⟨k1,_⟩ | ⟨b',Hs,k1,_⟩
      ·rw [k1] at bK;cases bK
      have NA:=bK
      rw [k1] at bK
      simp only [zI,zU] at bK
      obtain ⟨rfl,hlen,_⟩:=bK
      rw [bb,h2] at hlen
      have hm:l.length=m:=Nat.eq_of_mul_eq_mul_right (by omega) hlen
      refine ⟨b',d,m,cap,rfl,⟨h3,by omega⟩,?_⟩
      obtain rfl:=nI (by omega)
      have:=V.tp (g:=g) X [.ix (nN n) e.size] b' _ NA ⟨zW _ (by omega),trivial⟩
      rw [show dE [.ix (nN n) e.size]=nN n*e.size from rfl] at this
      rw [Nat.zero_add];exact this
    ·rename_i X z off m hx
     obtain ⟨h1,hr⟩:=af hr
     obtain rfl:=beq_eq h1
     obtain ⟨h3,hr⟩:=bz hr
     obtain ⟨h4,hr⟩:=bz hr
     have h5:=nU h3
     have h4:nN n<m:=h4
     refine .pure hr (fun S2=>oh (fun g w u hI hu=>?_)) hd
     rw [hx] at hu
     cases hu with
     | tj _ _ _ _ _ _ hn=>omega
     | ts _ _ _ _ b cap s bK hn oz hs hp d nI=>
      refine ⟨b,d,m,cap,rfl,⟨h3,by omega⟩,?_⟩
      obtain rfl:=nI (by omega)
      have:=V.tp (g:=g) X [.ix (aK off (nN n)) e.size] b _ bK ⟨Nat.le_trans (zW _ (show aK off (nN n)+1≤off+m by unfold aK;omega)) hs,trivial⟩
      rw [show dE [.ix (aK off (nN n)) e.size]=(off+nN n)*e.size from rfl,Nat.add_mul] at this
      exact this
    ·rename_i X z off m hx
     obtain ⟨h1,hr⟩:=af hr
     obtain rfl:=beq_eq h1
     obtain ⟨h3,hr⟩:=bz hr
     obtain ⟨h4,hr⟩:=bz hr
     have h5:=nU h3
     have h4:nN n<m:=h4
     refine .pure hr (fun S2=>oh (fun g w u hI hu=>?_)) hd
     rw [hx] at hu
     cases hu with
     | Dz _ _ _ _ _ _ hn=>omega
     | tf _ _ _ _ b s bK oz hs d nI=>
      refine ⟨b,d,m,m,rfl,⟨h3,by omega⟩,?_⟩
      obtain rfl:=nI (by omega)
      have:=V.tp (g:=g) X [.ix (aK off (nN n)) e.size] b _ bK ⟨Nat.le_trans (zW _ (show aK off (nN n)+1≤off+m by unfold aK;omega)) hs,trivial⟩
      rw [show dE [.ix (aK off (nN n)) e.size]=(off+nN n)*e.size from rfl,Nat.add_mul] at this
      exact this
    ·rename_i X π m z hx
     obtain ⟨h1,hr⟩:=af hr
     obtain rfl:=beq_eq h1
     obtain ⟨h3,hr⟩:=bz hr
     obtain ⟨h4,hr⟩:=bz hr
     have h5:=nU h3
     have h4:nN n<m:=h4
     refine .pure hr (fun S2=>oh (fun g w u hI hu=>?_)) hd
     rw [hx] at hu
     cases hu with
     | aa _ _ _ _ b cap s bK hk hn oz=>
      refine ⟨b,dE π,m,cap,rfl,⟨h3,by omega⟩,?_⟩
      have:=V.tp (g:=g) X (π++[.ai (nN n) m e.size]) b s bK ((l8 π [.ai (nN n) m e.size]).2 ⟨hk,show nN n<m∧True from ⟨h4,trivial⟩⟩)
      rw [kr] at this
      exact this
    ·rename_i q off z m hx
     obtain ⟨h1,hr⟩:=af hr
     obtain rfl:=beq_eq h1
     obtain ⟨i,k1,k2,k3,k4⟩:=yb _ _ hr
     refine .pure k1 (fun S2=>oh (fun g w u hI hu=>?_)) hd
     rw [hx] at hu
     cases hu with
     | sl _ _ _ _ b cap s bK hn oz hs=>
      refine ⟨b,off,m,cap,rfl,⟨by omega,by omega⟩,?_⟩
      rw [show n.toNat=i by omega]
      exact .ptr _ _ b s bK
    ·cases hr
   ·cases hr
  ·cases hr
 ·cases hr
end
end
set_option linter.unusedVariables false
set_option linter.unusedSimpArgs false
section
open Go.RowKit
section
variable {P:Program} {E:Env} {o:Oper} {ρ:Operand→A} {h:H} {β:Type} {K:A→H→Fp→Option β} {r:β}
def Na (E:Env) (T:Nat) (px:A) (h:H) (K:A→H→Fp→Option β):Option β:=match cu E.dP T with
 | some e=>match px with
  | .ptr q off=>bif Nat.blt q 16777216 then (match h.t.get q with
   | some (.cells cs)=>bif j7 e.d then (bif Nat.ble (off+e.size) cs.length then K (.agg ((cs.drop off).take e.size)) h (.rd [dz q]) else none) else (match cs[off]? with
    | some c=>DD c (fun v=>K v h (.rd [dz q]))
    | none=>none)
   | _=>none) else none
  | .tp X π=>rJ h X π (fun s=>bif Nat.beq s.t.size e.size then (bif j7 e.d then K (.agg (aA s.t s.x)) h (.rd [jg X]) else (match aA s.t s.x with
   | [c]=>DD c (fun v=>K v h (.rd [jg X]))
   | _=>none)) else none)
  | .dp t x=>bif t.data && Nat.beq t.size e.size then (bif j7 e.d then K (.agg (aA t x)) h .no else (match aA t x with
   | [c]=>DD c (fun v=>K v h .no)
   | _=>none)) else none
  | _=>none
 | none=>none
theorem EM (hE:bT P E) {T:Nat} {px:A} (hr:Na E T px h K=some r):∃v l,K v h (.rd l)=some r∧∀S2,Agree (.rd l) (hp h) S2→∀(o:Oper) (ρ:Operand→A) (x:Operand),o.op = .load T x→ρ x=px→GL P o ρ S2 v:=by
 have sp:∀{c:A} {l:List Nat},DD c (fun v=>K v h (.rd l))=some r→(∀S2,Agree (.rd l) (hp h) S2→∀(o:Oper) (ρ:Operand→A) (x:Operand),o.op = .load T x→ρ x=px→GL P o ρ S2 c) →
   ∃v l,K v h (.rd l)=some r∧∀S2,Agree (.rd l) (hp h) S2→∀(o:Oper) (ρ:Operand→A) (x:Operand),o.op = .load T x→ρ x=px→GL P o ρ S2 v:=fun h1 h2=>by
  obtain ⟨v,k1,k2⟩:=yc h1
  exact ⟨v,_,k1,fun S2 hA o ρ x ho hx g w a hI hv=>let ⟨u,q1,q2⟩:=h2 S2 hA o ρ x ho hx g w a hI hv;⟨u,q1,k2 g u q2⟩⟩
 unfold Na at hr
 split at hr
 ·rename_i e ht
  have hk:=hE.dP _ _ ht
  split at hr
  ·rename_i q off
   obtain ⟨hq,hr⟩:=af hr
   have hq:=aY hq
   split at hr
   ·rename_i cs hg
    have fe:(hp h).ob q=some (.cells cs):=by rw [ku hq];unfold fO;rw [hg];rfl
    cases ha:j7 e.d with
    | true=>
     rw [ha] at hr;simp only [cond_true] at hr
     obtain ⟨h1,hr⟩:=af hr
     exact ⟨_,_,hr,fun S2 hA o ρ x ho hx=>oZ ho hk.u ha hk.ti.size (by rw [hx];rfl) ((hA q (aB hq (.head _))).1.trans fe) (Nat.le_of_ble_eq_true h1)⟩
    | false=>
     rw [ha] at hr;simp only [cond_false] at hr
     split at hr
     ·rename_i c hc
      exact sp hr (fun S2 hA o ρ x ho hx=>wB ho hk.u ha (by rw [hx];rfl) ((hA q (aB hq (.head _))).1.trans fe) hc)
     ·cases hr
   ·cases hr
  ·rename_i X π
   obtain ⟨sg,h1,hX,h2⟩:=tC hr
   obtain ⟨h3,h1⟩:=af h1
   have h3:=beq_eq h3
   have bm:∀{S2:Hp} {v:A} {o:Oper} {ρ:Operand→A} {x:Operand},o.op = .load T x→ρ x = .tp X π→Agree (.rd [jg X]) (hp h) S2→(∀a c,S2.ob X.id=some (.cells (a++(aA sg.t sg.x++c)))→a.length=dE π→GL P o ρ S2 v)→GL P o ρ S2 v:=fun {S2 v o ρ x} ho hx hA k=>.bm fun g w a hI hv=>by
    have G7:=hv x (by simp [ho,Op.operands])
    rw [hx] at G7
    have ha:=hA _ (bG hX (.head _))
    obtain ⟨a,c,q1,q2⟩:=h2 g _ w _ hI ha.1 ha.2 G7
    exact k a c q1 q2
   have sJ:∀{ρ:Operand→A} {x:Operand},ρ x = .tp X π→Pl (ρ x)=some (X.id,dE π):=fun hx=>by rw [hx];rfl
   cases ha:j7 e.d with
   | true=>
    rw [ha] at h1;simp only [cond_true] at h1
    refine ⟨_,_,h1,fun S2 hA o ρ x ho hx=>bm ho hx hA fun a c q1 q2=>?_⟩
    have:=oZ (P:=P) ho hk.u ha hk.ti.size (sJ hx) q1 (by simp only [zY,bI];omega)
    rwa [←q2,List.drop_left,←h3,←bI sg.t sg.x,List.take_left] at this
   | false=>
    rw [ha] at h1;simp only [cond_false] at h1
    split at h1
    ·rename_i c0 Hg
     refine sp h1 (fun S2 hA o ρ x ho hx=>bm ho hx hA fun a c q1 q2=>?_)
     refine wB ho hk.u ha (sJ hx) q1 ?_
     rw [←q2,zJ (Nat.le_refl _),Nat.sub_self,Hg];rfl
    ·cases h1
  ·rename_i t y
   obtain ⟨h1,hr⟩:=af hr
   simp only [zC] at h1
   have h3:=beq_eq h1.2
   cases ha:j7 e.d with
   | true=>
    rw [ha] at hr;simp only [cond_true] at hr
    exact ⟨_,[],hr,fun S2 _ o ρ x ho hx=>qv ho hk.u (by rw [h3];exact hk.ti.size) hx h1.1 (by rw [ha,if_pos rfl])⟩
   | false=>
    rw [ha] at hr;simp only [cond_false] at hr
    split at hr
    ·rename_i c0 Hg
     exact sp (l:=[]) hr (fun S2 _ o ρ x ho hx=>qv ho hk.u (by rw [h3];exact hk.ti.size) hx h1.1 (by rw [ha,if_neg (by simp)];exact Hg))
    ·cases hr
  ·cases hr
 ·cases hr
theorem M_ (hE:bT P E) {T:Nat} {x:Operand} (ho:o.op = .load T x) (hr:Na E T (ρ x) h K=some r):Out P o ρ h K r:=by
 have hd:∀c,o.op≠.defer c:=by rw [ho];intro c e;cases e
 obtain ⟨v,l,k1,k2⟩:=EM hE hr
 exact .read _ k1 (fun S2 hA=>.value (k2 S2 hA o ρ x ho rfl)) hd
def tc (P:Program) (o:Oper) (S S':Hp) (pv:A) (g:G) (w:World) (a:Act):Prop:=
 ∀(next:Act→World→Prop) (Q:Exit→Act→World→Prop),(∀v g' w',V g' pv v→Inv g' S' w'→Ext S g w S' g' w'→next (a.put o.dst v) w')→o.wp P a w next Q
theorem tc.pre {S S1 S':Hp} {pv:A} {g g1:G} {w:World} {a:Act} (k:tc P o S1 S' pv g1 w a) (e:Ext S g w S1 g1 w):tc P o S S' pv g w a:=fun next Q K=>k next Q (fun v g' w' h1 h2 h3=>K v g' w' h1 h2 (e.trans h3))
theorem DC {S:Hp} {T:TypeId} {x y:Operand} {p off n:Nat} {cs ps:List A} {g:G} {w:World} {a:Act} (ho:o.op = .store T x y) (hs:eQ P T n) (hI:Inv g S w) (hx:∃b s,g.bm p=some (some b,s)∧a.eval x = .pointer (some ⟨b,off,none⟩)) (hy:Vs g ps (a.eval y).cells.toList) (hl:ps.length=n)
  (hp:S.ob p=some (.cells cs)) (hn:off+n≤cs.length):tc P o S (S.set p (.cells (put cs off ps))) .cG g w a:=by
 intro next Q K
 obtain ⟨b,s,h,hu⟩:=hx
 obtain ⟨cur,ty,k2,pO,h3,h4⟩:=hI.store (off:=off) hp h hy (by omega)
 unfold Oper.wp
 have pa:(a.eval y).cells.size=n:=by have:=hy.1;simp at this;omega
 have qL:=run_storeCells_at P b off ty (a.eval y).cells.toList 0 cur w k2 (by simpa using pO) hy.one
 simp only [execOp,ho,hu,Instr.storeAt,Instr.sureAddr,pure_bind,storeVar,Sem.run_bind,hs.run w,Result.andThen_ok,pa,ne_eq,not_true_eq_false,if_false]
 simp only [Nat.add_zero] at qL
 simp only [qL,Result.andThen_ok,Sem.run_pure]
 exact K _ g _ (.cG _) h3 h4
theorem H2 {T:Fp} {us:List Up} {S' S2:Hp} (hT:∀u∈us,touch T u.id=true):iU T S' (app us S2)=iU T S' S2:=by
 refine Hp.ext' (fun i=>?_) (fun i=>?_)
 ·show (if touch T i=true then _ else _)=(if touch T i=true then _ else _)
  split
  ·rfl
  ·rename_i hi;exact (dj us S2 i (fun u hu e=>hi (e▸hT u hu))).1
 ·show (if touch T i=true then _ else _)↔(if touch T i=true then _ else _)
  split
  ·exact Iff.rfl
  ·rename_i hi;exact (dj us S2 i (fun u hu e=>hi (e▸hT u hu))).2
def Z4 (E:Env) (T:Nat) (px py:A) (h:H) (K:A→H→Fp→Option β):Option β:=match cu E.dP T,py.cells with
 | some e,some ps=>match px with
  | .ptr q off=>bif Nat.blt q 16777216 then (match h.t.get q with
   | some (.cells cs)=>bif Nat.beq ps.length e.size && Nat.ble (off+e.size) cs.length && !(wR h (dz q)) then fg h.t q (some (.cells (put cs off ps))) (fun t1=>K .cG { h with t:=t1 } (.wr [dz q])) else none
   | _=>none) else none
  | .tp X π=>match plT h X π with
   | some u=>bif Nat.beq u.size e.size then (NL u ps h (fun uy h1 T1=>match pN u uy with
     | some y=>qG h1 X π u y (fun h2=>K .cG h2 (.wr (jg X::T1)))
     | none=>none)) else none
   | none=>none
  | _=>none
 | _,_=>none
theorem pU {T U:List Nat} {w:Bool} {s:List Nat} {i:Nat} (hU:∀j∈U,j∈T) (k:touch ⟨false,T,w,s⟩ i=false):touch ⟨false,U,w,s⟩ i=false:=by
 cases hx:touch ⟨false,U,w,s⟩ i with
 | false=>rfl
 | true=>rw [ff hU hx] at k;cases k
theorem Mx (hE:bT P E) {T:Nat} {x y:Operand} (ho:o.op = .store T x y) (hr:Z4 E T (ρ x) (ρ y) h K=some r):Out P o ρ h K r:=by
 have hd:∀c,o.op≠.defer c:=by rw [ho];intro c e;cases e
 unfold Z4 at hr
 split at hr
 ·rename_i e ps ht sZ
  have hk:=hE.dP _ _ ht
  split at hr
  ·rename_i q off hx
   obtain ⟨hq,hr⟩:=af hr
   have hq:=aY hq
   split at hr
   ·rename_i cs hg
    have fe:(hp h).ob q=some (.cells cs):=by rw [ku hq];unfold fO;rw [hg];rfl
    obtain ⟨h1,hr⟩:=af hr
    simp only [zC] at h1
    obtain ⟨_,t1,k1,k2⟩:=bo hr
    exact ⟨_,_,_,k1,.of [.set q (.cells (put cs off ps))] (qf (x:=.cells (put cs off ps)) hq k2) rfl (fun u hu=>by rcases zF.1 hu with rfl;exact aB (o:=q) hq (.head _))
     (fun S2 hA=>BW ho hk.ti.size (by rw [hx];rfl) sZ (beq_eq h1.1.1) ((hA q (aB hq (.head _))).1.trans fe) (Nat.le_of_ble_eq_true h1.1.2)) hd⟩
   ·cases hr
  ·rename_i X π hx
   split at hr
   ·rename_i u hu
    obtain ⟨Nk,hr⟩:=af hr
    obtain ⟨uy,h1,T1,hr,us,c1,c2,c3⟩:=I6 hr
    split at hr
    ·rename_i y' hy
     obtain ⟨h2,k1,hX,k2,k3⟩:=Hz hr
     have C9:∀u∈us,touch (Fp.wr (jg X::T1)) u.id=true:=fun u hu=>ff (fun i hi=>.tail _ hi) (c2 u hu)
     have out:∀i,touch (Fp.wr (jg X::T1)) i=false→(hp h2).ob i=(hp h).ob i∧((hp h2).fr i↔(hp h).fr i):=fun i hi=>by
      have e1:=k2 i (pU (T:=jg X::T1) (fun j hj=>by rcases zF.1 hj with rfl;exact .head _) hi)
      have e2:=dj us (hp h) i (fun u hu e=>by have:=C9 u hu;rw [←e] at this;rw [show touch (Fp.wr (jg X::T1)) i=false from hi] at this;cases this)
      rw [←c1] at e2
      exact ⟨e1.1.trans e2.1,e1.2.trans e2.2⟩
     refine ⟨_,_,_,k1,⟨out,fun i hi=>out i (td hi),fun S2 hA=>?_⟩⟩
     ·refine fc.LD (fun g w a next Q hI hv K'=>?_) hd
      have vL:=hv x (by simp [ho,Op.operands])
      have hvy:=(hv y (by simp [ho,Op.operands])).cells sZ
      obtain ⟨g1,q1,q2,q3⟩:=c3 g S2 w _ hI (hA.mono fun i hi=>.tail _ hi) hvy
      obtain ⟨z1,z2⟩:=jJ (g:=g1) u uy y' hy
      have IV:Agree (Fp.wr (jg X::T1)) (hp h1) (app us S2):=by rw [c1];exact Agree.app us hA
      rw [hx] at vL
      have UL:=vL.mono q2.le
      obtain ⟨cs,w1,w2,w3⟩:=k3 (jg X::T1) (.head _) g1 _ w _ q1 IV UL
      have sJ:∃b s,g1.bm X.id=some (some b,s)∧a.eval x = .pointer (some ⟨b,dE π,none⟩):=UL.pl rfl
      have pa:=beq_eq Nk
      have st:=DC (P:=P) ho hk.ti.size q1 sJ (z2 _ q3) (by rw [bI,pa]) w1 (by rw [←pa];exact w2)
      rw [←w3,H2 C9] at st
      exact (st.pre q2) next Q K'
    ·cases hr
   ·cases hr
  ·cases hr
 ·cases hr
def nF (x:gH) (h:H) (k:Nat→H→Option β):Option β:=fg h.t h.aR (some x) (fun t1=>k h.aR { h with t:=t1,aR:=h.aR+1 })
theorem fW {x:gH} {k:Nat→H→Option β} (hr:nF x h k=some r):∃h',k h.aR h'=some r∧h.aR<16777216∧(hp h).fr h.aR∧hp h'=app [.new h.aR x.low] (hp h):=by
 obtain ⟨hq,t1,k1,k2⟩:=bo hr
 have hq:h.aR<16777216:=Ci hq
 refine ⟨_,k1,hq,?_,Ff hq k2⟩
 have e:(if h.aR<cI then h.aR≤h.aR else gf h.rg h.aR)=(h.aR≤h.aR):=if_pos hq
 show (if h.aR<cI then h.aR≤h.aR else gf h.rg h.aR)
 rw [e];exact Nat.le_refl _
theorem oq {S:Hp} {T:TypeId} {i:TypeInfo} {z:Value} {q:Nat} {zs:List A} (ho:o.op = .alloc T) (hi:P.info? T=some i) (hz:i.zero=some z) (UJ:Zs zs z) (hf:S.fr q) :
  fc P o ρ S (S.new q (.cells zs)) (.ptr q 0):=by
 intro g w a next Q hI hv K
 have hzs:=UJ g
 obtain ⟨h1,h2⟩:=hI.l7 hf (cs:=zs) (vs:=z.cells) T (by have:=hzs.1;simp at this ⊢;omega) hzs.all
 unfold Oper.wp
 simp only [execOp,ho,Instr.alloc,Sem.run_bind,zeroValue,typeInfo,run_program,Result.andThen_ok,hi,hz,Sem.run_pure,newVar,newRow,run_newObj]
 exact K _ _ _ (.ptr _ _ w.heap.size _ cg) h1 h2
theorem V.Ed {g:G} {q:Nat} {v:Value} (hv:V g (.ptr q 0) v):V g (.tp (.loc q) []) v:=by
 cases hv with
 | ptr _ _ b s hb=>exact .tp (.loc q) [] b s hb trivial
def Oq (E:Env) (T:Nat) (h:H) (K:A→H→Fp→Option β):Option β:=match cu E.dP T with
 | some e=>bif e.lt then (match e.t with
  | some t=>nF (.one t t.cQ) h (fun q h'=>K (.tp (.loc q) []) h' (.wr [dz q]))
  | none=>none) else nF (.cells (kh e.zero)) h (fun q h'=>K (.ptr q 0) h' (.wr [dz q]))
 | none=>none
theorem Jw (hE:bT P E) {T:Nat} (ho:o.op = .alloc T) (hr:Oq E T h K=some r):Out P o ρ h K r:=by
 have hd:∀c,o.op≠.defer c:=by rw [ho];intro c e;cases e
 unfold Oq at hr
 split at hr
 ·rename_i e ht
  have hk:=hE.dP _ _ ht
  obtain ⟨i,t1,t2,t3,t4,t5,t6⟩:=hk.ti
  cases hl:e.lt with
  | true=>
   rw [hl] at hr;simp only [cond_true] at hr
   split at hr
   ·rename_i t xO
    obtain ⟨h',k1,hq,hf,hh⟩:=fW hr
    refine ⟨_,_,_,k1,Step.Dm (.of _ hh rfl (fun u hu=>by rcases zF.1 hu with rfl;exact aB (o:=h.aR) hq (.head _)) (fun S2 hA=>oq ho t1 t2 (hk.tz t xO) ((hA _ (aB hq (.head _))).2.2 hf)) hd) (fun g v hv=>hv.Ed)⟩
   ·cases hr
  | false=>
   rw [hl] at hr;simp only [cond_false] at hr
   obtain ⟨h',k1,hq,hf,hh⟩:=fW hr
   exact ⟨_,_,_,k1,.of _ hh rfl (fun u hu=>by rcases zF.1 hu with rfl;exact aB (o:=h.aR) hq (.head _)) (fun S2 hA=>oq ho t1 t2 (Dg t6) ((hA _ (aB hq (.head _))).2.2 hf)) hd⟩
 ·cases hr
theorem wG {S:Hp} {T:TypeId} {x:Operand} {ps qs:List A} {q:Nat} (ho:o.op = .box T x) (hx:(ρ x).cells=some ps) (hq:∀g vs,Vs g ps vs→Vs g qs vs) (hf:S.fr q):fc P o ρ S (S.new q (.cells qs)) (.ptr q 0):=by
 intro g w a next Q hI hv K
 have e2:=hq _ _ ((hv x (by simp [ho,Op.operands])).cells hx)
 obtain ⟨h1,h2⟩:=hI.l7 hf (cs:=qs) (vs:=(a.eval x).cells) T (by have:=e2.1;simp at this ⊢;omega) e2.all
 unfold Oper.wp
 simp only [execOp,ho,Instr.box,Sem.run_bind,Result.andThen_ok,Sem.run_pure,newVar,newRow,run_newObj]
 exact K _ _ _ (.ptr _ _ w.heap.size _ cg) h1 h2
def Gq (E:Env) (T:Nat) (px:A) (h:H) (K:A→H→Fp→Option β):Option β:=match cu E.dP T,px.cells with
 | some e,some ps=>bif e.lt then (match e.t with
  | some t=>match pN t ps with
   | some x=>nF (.one t x) h (fun q h'=>K (.tp (.loc q) []) h' (.wr [dz q]))
   | none=>none
  | none=>none) else nF (.cells ps) h (fun q h'=>K (.ptr q 0) h' (.wr [dz q]))
 | _,_=>none
theorem Gp {T:Nat} {x:Operand} (ho:o.op = .box T x) (hr:Gq E T (ρ x) h K=some r):Out P o ρ h K r:=by
 have hd:∀c,o.op≠.defer c:=by rw [ho];intro c e;cases e
 unfold Gq at hr
 split at hr
 ·rename_i e ps ht sZ
  cases hl:e.lt with
  | true=>
   rw [hl] at hr;simp only [cond_true] at hr
   split at hr
   ·rename_i t xO
    split at hr
    ·rename_i y hy
     obtain ⟨h',k1,hq,hf,hh⟩:=fW hr
     exact ⟨_,_,_,k1,Step.Dm (.of _ hh rfl (fun u hu=>by rcases zF.1 hu with rfl;exact aB (o:=h.aR) hq (.head _)) (fun S2 hA=>wG ho sZ (fun g vs hv=>(jJ t ps y hy).2 vs hv) ((hA _ (aB hq (.head _))).2.2 hf)) hd) (fun g v hv=>hv.Ed)⟩
    ·cases hr
   ·cases hr
  | false=>
   rw [hl] at hr;simp only [cond_false] at hr
   obtain ⟨h',k1,hq,hf,hh⟩:=fW hr
   exact ⟨_,_,_,k1,.of _ hh rfl (fun u hu=>by rcases zF.1 hu with rfl;exact aB (o:=h.aR) hq (.head _)) (fun S2 hA=>wG ho sZ (fun g vs hv=>hv) ((hA _ (aB hq (.head _))).2.2 hf)) hd⟩
 ·cases hr
end
end
set_option linter.unusedVariables false
set_option linter.unusedSimpArgs false
section
open Go.RowKit
section
variable {P:Program} {E:Env} {o:Oper} {ρ:Operand→A} {h:H} {β:Type} {K:A→H→Fp→Option β} {r:β}
def Ol (E:Env) (T:Nat) (ρ:Operand→A) (ps:List (Nat×Operand)) (h:H) (K:A→H→Fp→Option β):Option β:=match cu E.dP T with
 | some e=>match e.d with
  | .struct _=>match sh ρ (fun i=>e.pl.toArray[i]?) (kh e.zero) ps with
   | some cs=>K (.agg cs) h .no
   | none=>none
  | .array _ el=>match cu E.dP el with
   | some e'=>match sh ρ (fun i=>some (i*e'.size,e'.size)) (kh e.zero) ps with
    | some cs=>K (.agg cs) h .no
    | none=>none
   | none=>none
  | _=>none
 | none=>none
theorem Jp (hE:bT P E) {T:Nat} {ps:Array (Nat×Operand)} (ho:o.op = .build T ps) (hr:Ol E T ρ ps.toList h K=some r):Out P o ρ h K r:=by
 have hd:∀c,o.op≠.defer c:=by rw [ho];intro c e;cases e
 unfold Ol at hr
 split at hr
 ·rename_i e ht
  have hk:=hE.dP _ _ ht
  split at hr
  ·rename_i fs Da
   split at hr
   ·rename_i cs hf
    obtain ⟨i,t1,t2,t3,t4,t5,t6⟩:=hk.ti
    exact .pure hr (fun S2=>B4 ho (by rw [hk.u,Da]) t1 t2 t6 (hk.pl fs Da) hf) hd
   ·cases hr
  ·rename_i n el Da
   split at hr
   ·rename_i e' Vi
    split at hr
    ·rename_i cs hf
     exact .pure hr (fun S2=>sV ho (by rw [hk.u,Da]) hk.ti (hE.dP _ _ Vi).ti.size hf) hd
    ·cases hr
   ·cases hr
  ·cases hr
 ·cases hr
def FJ (f:List A→H→Option (List A×H×List Nat)) (z:Nat):Nat→List A→H→Option (List A×H×List Nat)
 | 0,cs,h=>some (cs,h,[])
 | n+1,cs,h=>match f (cs.take z) h with
  | some (A5,h1,T1)=>match FJ f z n (cs.drop z) h1 with
   | some (Me,h2,T2)=>some (A5++Me,h2,T1++T2)
   | none=>none
  | none=>none
theorem AQ {f:List A→H→Option (List A×H×List Nat)} (hf:∀cs h cs' h' T,f cs h=some (cs',h',T)→Cv h h' T cs cs') {z:Nat}:∀(n:Nat) (cs:List A) (h:H) (cs':List A) (h':H) (T:List Nat),FJ f z n cs h=some (cs',h',T)→Cv h h' T cs cs'
 | 0,cs,h,cs',h',T,e=>by
  simp only [FJ,zI,zU] at e
  obtain ⟨rfl,rfl,rfl⟩:=e
  exact Cv.refl h [] _
 | n+1,cs,h,cs',h',T,e=>by
  simp only [FJ] at e
  split at e
  ·rename_i A5 h1 T1 e1
   split at e
   ·rename_i Me h2 T2 e2
    simp only [zI,zU] at e
    obtain ⟨rfl,rfl,rfl⟩:=e
    have:=(hf _ _ _ _ _ e1).append (AQ hf n _ _ _ _ _ e2)
    rwa [zP] at this
   ·cases e
  ·cases e
theorem nY {pv:A} {S:Hp} {T El:TypeId} {n z:Nat} {parts:Array (Nat×Operand)} {ie:TypeInfo} {zv:Value} {es cs:List A} {q:Nat} {g g0:G} {w:World} {a:Act} (ho:o.op = .buildSlice T n parts) (hT:P.underlying T=some (.slice El)) (hE:P.info? El=some ie) (hz:ie.zero=some zv)
  (hs:ie.size=z) (h0:0<z) (hn:n*z≤16777216) (qW:FZ ρ z parts.toList 0=some es) (hl:parts.toList.length=n) (hI:Inv g S w) (hv:∀x∈o.op.operands,V g0 (ρ x) (a.eval x)) (hf:S.fr q) (e5:Vs g cs ((parts.toList.map fun x=>a.eval x.2).flatMap (fun v=>v.cells.toList)))
  (qK:∀g' b,g'.bm q=some (some b,(n*z,n*z))→n≤maxLen→V g' pv (.slice (some ⟨b,0,none⟩) n n)):tc P o S (S.new q (.cells cs)) pv g w a:=by
 intro next Q K
 subst hs
 obtain ⟨e2,e1,e3,e4⟩:=qY (z:=ie.size) (a:=a) (g:=g0) parts.toList 0 es (fun x hx=>hv x.2 (by
  simp only [ho,Op.operands]
  rw [List.mem_toArray]
  exact List.mem_map.2 ⟨x,hx,rfl⟩)) qW
 have Nk:((Array.range (n*ie.size)).map (zv.cells[· % zv.cells.size]!)).size=n*ie.size:=by simp
 have Vg:=Go.Great.fill_whole h0 (parts.toList.map fun x=>a.eval x.2) ((Array.range (n*ie.size)).map (zv.cells[· % zv.cells.size]!)) e3 (by simp only [zH];rw [Nk,hl])
 have rW:(parts.map fun (i,x)=>(i,a.eval x)).toList=((parts.toList.map fun x=>a.eval x.2).zipIdx 0).map (fun x=>(x.2,x.1)):=by rw [←e2];simp
 generalize AH:(parts.toList.map fun x=>a.eval x.2).flatMap (fun v=>v.cells.toList)=vs at *
 have hvl:vs.length=n*ie.size:=by rw [←e4.1,e1,hl]
 obtain ⟨h1,h2⟩:=hI.l7 hf (cs:=cs) (vs:=vs.toArray) El (by have:=e5.1;simp;omega) (Vs.all (vs:=vs.toArray) e5)
 have YW:n≤n*ie.size:=Nat.le_mul_of_pos_right _ h0
 have h8:cs.length=n*ie.size:=by rw [e5.1,hvl]
 have h9:vs.toArray.size=n*ie.size:=by simp [hvl]
 have qK:=qK (j5 g q (some w.heap.size,(cs.length,vs.toArray.size))) w.heap.size (by rw [cg,h8,h9]) (by simp only [maxLen];omega)
 unfold Oper.wp
 by_cases LY:n=0
 ·subst LY
  have hpe:parts.toList=[]:=zZ hl
  have aaB:vs=[]:=zZ (by rw [hvl];simp)
  have hp3:parts = #[]:=by apply Array.ext';simp [hpe]
  have eL:(execOp a.eval o).run P w = .ok (.value (.slice (some ⟨w.heap.size,0,none⟩) 0 0)) (w.alloc (.cells #[] El)):=by
   simp [execOp,ho,hp3,Instr.buildSlice,run_underlying hT,sizeOf,typeInfo,hE,Instr.fill,newRow,Array.range_zero']
  rw [eL]
  subst aaB
  exact K (.slice (some ⟨w.heap.size,0,none⟩) 0 0) _ _ qK h1 h2
 ·have aaP:¬n*ie.size=0:=by
   intro h;rcases Nat.mul_eq_zero.1 h with h | h<;>omega
  have eL:(execOp a.eval o).run P w = .ok (.value (.slice (some ⟨w.heap.size,0,none⟩) n n)) (w.alloc (.cells vs.toArray El)):=by
   have:=run_buildSlice (P:=P) w T El n (parts.map fun (i,x)=>(i,a.eval x)) vs.toArray ie zv hT hE hz (by omega) aaP (by rw [rW];exact Vg)
   simp only [execOp,ho,Sem.run_bind,this,Result.andThen_ok,Sem.run_pure]
  rw [eL]
  exact K _ _ _ qK h1 h2
def Oh (E:Env) (T n:Nat) (ρ:Operand→A) (ps:List (Nat×Operand)) (h:H) (K:A→H→Fp→Option β):Option β:=match cu E.dP T with
 | some ⟨.slice el,_,_,_,_,_,_⟩=>match cu E.dP el with
  | some e=>bif Nat.blt 0 e.size && Nat.ble (n*e.size) 16777216 && Nat.beq ps.length n then (match FZ ρ e.size ps 0,e.t with
   | some es,some t=>match FJ (fixC 64 t) t.size n es h with
    | some (oC,h1,T1)=>match tq (pN t) t.size n oC with
     | some l=>nF (.row t l) h1 (fun q h2=>K (.tw (.loc q) e.size) h2 (.wr (dz q::T1)))
     | none=>none
    | none=>none
   | some es,none=>nF (.cells es) h (fun q h2=>K (.sl q 0 e.size n) h2 (.wr [dz q]))
   | _,_=>none) else none
  | none=>none
 | _=>none
theorem Step.new {T1:List Nat} {h1 h2:H} {us:List Up} {x:Ob} {pv:A} (c1:hp h1=app us (hp h)) (c2:∀u∈us,touch (.wr T1) u.id=true) (hq:h1.aR<16777216) (hf:(hp h1).fr h1.aR) (hh:hp h2=app [.new h1.aR x] (hp h1)) (hd:∀c,o.op≠.defer c)
  (k:∀S2 g w a,Agree (.wr T1) (hp h) S2→(app us S2).fr h1.aR→Inv g S2 w→(∀x∈o.op.operands,V g (ρ x) (a.eval x))→tc P o S2 ((app us S2).new h1.aR x) pv g w a):Step P o ρ h h2 (.wr (dz h1.aR::T1)) pv:=
 .of (us++[.new h1.aR x]) (by rw [iS,←c1,hh]) rfl (fun u hu=>by
  rcases zX.1 hu with hu | hu
  ·exact ff (fun i hi=>.tail _ hi) (c2 u hu)
  ·rcases zF.1 hu with rfl;exact aB (o:=h1.aR) hq (.head _)) (fun S2 hA g w a next Q hI hv K'=>by
  have oH:(app us S2).fr h1.aR:=by
   have:=Agree.app us hA
   rw [←c1] at this
   exact (this h1.aR (aB hq (.head _))).2.2 hf
  have e:=iS us [.new h1.aR x] S2
  rw [e] at K'
  exact k S2 g w a (hA.mono fun i hi=>.tail _ hi) oH hI hv next Q K') hd
theorem Jl (hE:bT P E) {T n:Nat} {ps:Array (Nat×Operand)} (ho:o.op = .buildSlice T n ps) (hr:Oh E T n ρ ps.toList h K=some r):Out P o ρ h K r:=by
  have hd:∀c,o.op≠.defer c:=by rw [ho];intro c e;cases e
  unfold Oh at hr
  split at hr
  · rename_i el _ _ _ _ _ _ ht
    split at hr
    · rename_i e he
      obtain ⟨hc,hr⟩:=af hr
      simp only [zC] at hc
      have h0:=aY hc.1.1
      have hn:=Nat.le_of_ble_eq_true hc.1.2
      have hl:=beq_eq hc.2
      obtain ⟨i,t1,t2,t3,t4,t5,t6⟩:=(hE.dP _ _ he).ti
      split at hr
      · rename_i es t qW xO
        split at hr
        · rename_i oC h1 T1 hf
          split at hr
          · rename_i l hy
            obtain ⟨us,c1,c2,c3⟩:=AQ (fun cs h cs' h' T e=>pr _ _ _ _ _ _ _ e) _ _ _ _ _ _ hf
            obtain ⟨h2,k1,hq,oH,hh⟩:=fW hr
            refine ⟨_,_,_,k1,.new c1 c2 hq oH hh hd (fun S2 g w a hA hf hI hv=>?_)⟩
            obtain ⟨e2,e1,e3,e4⟩:=qY (z:=e.size) (a:=a) (g:=g) ps.toList 0 es (fun x hx=>hv x.2 (by
              simp only [ho,Op.operands]
              rw [List.mem_toArray]
              exact List.mem_map.2 ⟨x,hx,rfl⟩)) qW
            obtain ⟨g1,q1,q2,q3⟩:=c3 g S2 w _ hI hA e4
            obtain ⟨z1,z2,z3⟩:=oP (g:=g1) (fun cs x h=>jJ t cs x h) _ _ _ hy
            refine tc.pre ?_ q2
            refine nY (g0:=g) ho (hE.dP _ _ ht).u t1 t2 t3 h0 hn qW hl q1 hv hf ?_ (fun g' b hb hx=>.tw (.loc h1.aR) e.size n b n _ hb (Nat.le_refl _) hx (Nat.le_refl _) 0 (fun _=>rfl))
            exact z3 _ q3
          · cases hr
        · cases hr
      · rename_i es qW xO
        obtain ⟨h2,k1,hq,oH,hh⟩:=fW hr
        refine ⟨_,_,_,k1,.of _ hh rfl (fun u hu=>by rcases zF.1 hu with rfl;exact aB (o:=h.aR) hq (.head _)) (fun S2 hA g w a next Q hI hv K'=>?_) hd⟩
        obtain ⟨e2,e1,e3,e4⟩:=qY (z:=e.size) (a:=a) (g:=g) ps.toList 0 es (fun x hx=>hv x.2 (by
              simp only [ho,Op.operands]
              rw [List.mem_toArray]
              exact List.mem_map.2 ⟨x,hx,rfl⟩)) qW
        exact nY (g0:=g) ho (hE.dP _ _ ht).u t1 t2 t3 h0 hn qW hl hI hv ((hA _ (aB hq (.head _))).2.2 oH) e4 (fun g' b hb hx=>.sl h.aR 0 e.size n b n _ hb (Nat.le_refl _) hx (by omega)) next Q K'
      · cases hr
    · cases hr
  · cases hr
end
end
set_option linter.unusedVariables false
set_option linter.unusedSimpArgs false
section
open Go.RowKit
section
variable {P:Program} {E:Env} {o:Oper} {ρ:Operand→A} {h:H} {β:Type} {K:A→H→Fp→Option β} {r:β}
theorem V.rb {g:G} {S:Hp} {w:World} (hI:Inv g S w) {X:Ref} {t:Ty} {l:List t.T} (h0:0<t.size) (ho:S.ob X.id=some (.cells (l.flatMap (aA t)))) {v:Value} (hv:V g (.tw X t.size) v) :
  (∃ad,g.bm X.id=some (none,(0,0))∧v = .slice ad 0 0∧l=[])∨∃b s cap d,g.bm X.id=some (some b,s)∧v = .slice (some ⟨b,d,none⟩) l.length cap∧(cap≠0→d=0)∧l.length≤cap∧cap≤maxLen∧cap*t.size≤s.2:=by
 have hlen:=bb t l
 cases hv with
 | te _ _ ad bK=>
  rcases hI.cells _ _ ho with ⟨_,k2⟩ | ⟨b,tt,k1,_⟩
  ·refine .inl ⟨ad,bK,rfl,zZ ?_⟩
   rw [k2] at hlen
   rcases Nat.eq_zero_or_pos l.length with h | h
   ·exact h
   ·have:0<l.length*t.size:=Nat.mul_pos h h0
    simp at hlen;omega
  ·rw [k1] at bK;cases bK
 | tw _ _ m b cap tt bK hn oz hp d nI=>
  rcases hI.cells _ _ ho with ⟨k1,_⟩ | ⟨b',Hs,k1,_⟩
  ·rw [k1] at bK;cases bK
  have NA:=bK
  rw [k1] at bK
  simp only [zI,zU] at bK
  obtain ⟨rfl,hl,rfl⟩:=bK
  rw [hlen] at hl
  have hm:l.length=m:=Nat.eq_of_mul_eq_mul_right h0 hl
  subst hm
  exact .inr ⟨b',_,cap,d,NA,rfl,nI,hn,oz,hp⟩
def Uz (h:H) (px:A) (k:Nat→List Nat→Option β):Option β:=match px with
 | .e0=>k 0 []
 | .v (.slice _ n _)=>k n []
 | .tl _ _ l=>k (len l) []
 | .tw X z=>jL h X (fun t l=>bif Nat.beq z t.size && Nat.blt 0 t.size then k (len l) [jg X] else none)
 | .ts _ _ _ n=>k n []
 | .tf _ _ _ n=>k n []
 | .aa _ _ n _=>k n []
 | .sl _ _ _ n=>k n []
 | _=>none
theorem V.Rs {g:G} {t:Ty} {f:Bool} {l:List t.T} {v:Value} (hv:V g (.tl t f l) v):∃ad c,v = .slice ad l.length c:=by
 cases hv with
 | tl _ _ _ _ hd=>
  generalize qW:List.map (dh t) l=es at hd
  have qg:es.length=l.length:=by rw [←qW,zH]
  cases hd with
  | ui=>rw [←qg];exact ⟨_,_,rfl⟩
  | sl _ _ _ a cap vs=>rw [←qg];exact ⟨_,_,rfl⟩
theorem Iu {px:A} {k:Nat→List Nat→Option β} (hr:Uz h px k=some r):∃n T,k n T=some r∧∀S2,Agree (.rd T) (hp h) S2→∀g w v,Inv g S2 w→V g px v→∃ad c,v = .slice ad n c:=by
 cases px with
 | e0=>exact ⟨0,[],hr,fun S2 _ g w v _ hv=>by cases hv with | e0 ad=>exact ⟨ad,0,rfl⟩⟩
 | v x=>cases x with
  | slice ad n c=>exact ⟨n,[],hr,fun S2 _ g w v _ hv=>by cases hv;exact ⟨_,_,rfl⟩⟩
  | _=>cases hr
 | tl t f l=>exact ⟨len l,[],hr,fun S2 _ g w v _ hv=>hv.Rs⟩
 | tw X z=>
  obtain ⟨t,l,hr,hX,fe⟩:=eX (show jL h X _=some r from hr)
  obtain ⟨h1,hk⟩:=af hr
  simp only [zC] at h1
  obtain rfl:=beq_eq h1.1
  exact ⟨_,_,hk,fun S2 hA g w v hI hv=>by
   rcases hv.rb hI (aY h1.2) ((hA _ (bG hX (.head _))).1.trans fe) with ⟨ad,_,rfl,rfl⟩ | ⟨b,s,cap,d,_,rfl,_⟩
   ·exact ⟨ad,0,rfl⟩
   ·exact ⟨_,cap,rfl⟩⟩
 | ts X z off n=>exact ⟨n,[],hr,fun S2 _ g w v _ hv=>by
   cases hv with
   | tj _ _ _ _ ad _ hn=>exact ⟨ad,0,by rw [show n=0 by omega]⟩
   | ts=>exact ⟨_,_,rfl⟩⟩
 | tf X z off n=>exact ⟨n,[],hr,fun S2 _ g w v _ hv=>by
   cases hv with
   | Dz _ _ _ _ ad _ hn=>exact ⟨ad,0,by rw [show n=0 by omega]⟩
   | tf=>exact ⟨_,_,rfl⟩⟩
 | aa X π n z=>exact ⟨n,[],hr,fun S2 _ g w v _ hv=>by cases hv;exact ⟨_,_,rfl⟩⟩
 | sl q off z n=>exact ⟨n,[],hr,fun S2 _ g w v _ hv=>by cases hv;exact ⟨_,_,rfl⟩⟩
 | _=>cases hr
def yE (E:Env) (T:Nat):Option Nat:=match cu E.dP T with
 | some ⟨.slice el,_,_,_,_,_,_⟩=>some el
 | _=>none
theorem o9 (hE:bT P E) {T el:Nat} (h:yE E T=some el):P.underlying T=some (.slice el):=by
 unfold yE at h
 split at h
 ·rename_i ht;cases h;exact (hE.dP _ _ ht).u
 ·cases h
def M9 (E:Env) (T:Nat) (px:A) (h:H) (K:A→H→Fp→Option β):Option β:=match yE E T with
 | some _=>Uz h px (fun n T=>K (.v (.int .i64 (zN n))) h (.rd T))
 | none=>none
theorem It (hE:bT P E) {T:Nat} {x:Operand} (ho:o.op = .call { callee:=.builtin .len,args:=#[x],argTypes:=#[T] }) (hr:M9 E T (ρ x) h K=some r):Out P o ρ h K r:=by
 unfold M9 at hr
 split at hr
 ·rename_i el he
  obtain ⟨n,T',h1,h2⟩:=Iu hr
  exact .read _ h1 (fun S2 hA=>H6 ho ⟨el,o9 hE he⟩ (h2 S2 hA)) (by rw [ho];intro c e;cases e)
 ·cases hr
def yY {α:Type} (d:α) (n:Nat) (l:List α):List α:=(List.range n).map (nth d l)
theorem CF {α β:Type} (f:α→List β) (d:α) (n:Nat) (l:List α):(yY d n l).flatMap f=Gv f d n l:=by
 unfold yY Gv
 rw [List.flatMap_map]
theorem FL {α:Type} (d:α) (n:Nat) (l:List α):(yY d n l).length=n:=by simp [yY]
def ya (h:H) (t:Ty) (py:A) (k:List t.T→List Nat→Option β):Option β:=match py with
 | .e0=>k [] []
 | .v (.slice _ 0 _)=>k [] []
 | .tl t' _ l=>match fR (.aF t') (.aF t) l with
  | some l'=>bif t.data then k l' [] else none
  | none=>none
 | .nn t' l=>match fR (.aF t') (.aF t) l with
  | some l'=>bif t.data then k l' [] else none
  | none=>none
 | .os r z o=>opt o (k [] []) (fun j=>jL h (.eH r j) (fun t' l=>match fR (.aF t') (.aF t) l with
  | some l'=>bif Nat.beq z t.size && Nat.blt 0 t.size then k l' [jg (.eH r j)] else none
  | none=>none))
 | .tw X z=>jL h X (fun t' l=>match fR (.aF t') (.aF t) l with
  | some l'=>bif Nat.beq z t.size && Nat.blt 0 t.size then k l' [jg X] else none
  | none=>none)
 | .ts X z off n=>jL h X (fun t' l=>match fR (.aF t') (.aF t) l with
  | some l'=>bif Nat.beq z t.size && Nat.blt 0 t.size then k (tk n (dr off l')) [jg X] else none
  | none=>none)
 | .tf X z off n=>jL h X (fun t' l=>match fR (.aF t') (.aF t) l with
  | some l'=>bif Nat.beq z t.size && Nat.blt 0 t.size then k (tk n (dr off l')) [jg X] else none
  | none=>none)
 | .aa X π n z=>rJ h X π (fun sg=>match fR sg.t (.arr n t) sg.x with
  | some l=>bif Nat.beq z t.size then k (yY t.cQ n l) [jg X] else none
  | none=>none)
 | .sl q off z n=>match h.t.get q with
  | some (.cells cs)=>bif Nat.blt q 16777216 && Nat.beq z t.size && Nat.ble (off+n*z) cs.length then (match tq (pN t) t.size n ((cs.drop off).take (n*z)) with
   | some l=>k l [dz q]
   | none=>none) else none
  | _=>none
 | _=>none
theorem Given.conv {g:G} {w:World} {v:Value} {sz m:Nat} {ps qs:List A} (k:Given g w v sz m ps) (hc:∀vs,Vs g ps vs→Vs g qs vs):Given g w v sz m qs:=by
 obtain ⟨A2,mB,us,h1,h2,h3,h4⟩:=k
 exact ⟨A2,mB,us,h1,hc _ h2,h3,h4⟩
theorem V.ud {g:G} {S:Hp} {w:World} (hI:Inv g S w) {t:Ty} (hd:t.data=true) {f:Bool} {l:List t.T} {v:Value} (hv:V g (.tl t f l) v):Given g w v t.size l.length (l.flatMap (aA t)):=by
 cases hv with
 | tl _ _ _ _ hv=>
  generalize qW:List.map (dh t) l=es at hv
  have qg:es.length=l.length:=by rw [←qW,zH]
  have He:es.flatten=l.flatMap (dh t):=by rw [←qW,lC]
  cases hv with
  | ui=>
   have:l=[]:=zZ qg.symm
   subst this
   exact .zero ⟨_,_,rfl⟩
  | sl _ _ _ a cap vs hz hc hf hn hx hl hm G6=>
   rw [He] at G6 hl
   have AH:lg g.mem (l.flatMap (dh t)) vs:=⟨hl,G6⟩
   have h1:=FI (g:=g) (f:=aA t) (f':=dh t) (fun x us hu=>lg.cells t x us hd hu) (fun x=>by rw [bI,dY]) l vs AH
   rw [qg]
   refine ⟨_,cap,vs,rfl,h1,by rw [←h1.1,bb],fun h0=>?_⟩
   cases a with
   | none=>have:=hn rfl;omega
   | some p=>
    refine ⟨_,rfl,fun j x hj=>?_⟩
    obtain ⟨cur,ty,fz,q1,q2⟩:=hI.mem _ _ _ (hm p j x rfl hj)
    rw [show (Ze p).add j=⟨p.1,p.2+j,none⟩ from Addr.add_lit _ _ _,cell_of_row w p.1 _ cur ty _ q1];exact q2
theorem piece {g:G} {S:Hp} {w:World} (hI:Inv g S w) {X:Ref} {t:Ty} {l:List t.T} {off n b cap d:Nat} {s:Nat×Nat} (_h0:0<t.size) (fe:S.ob X.id=some (.cells (l.flatMap (aA t)))) (bK:g.bm X.id=some (some b,s)) (hle:off+n≤l.length) (hd:n≠0→d=off*t.size) :
  Given g w (.slice (some ⟨b,d,none⟩) n cap) t.size (tk n (dr off l)).length ((tk n (dr off l)).flatMap (aA t)):=by
 have hl:(tk n (dr off l)).length=n:=by simp [tk,dr];omega
 rw [hl]
 rcases Nat.eq_zero_or_pos n with h0 | h0
 ·subst h0
  rw [show tk 0 (dr off l)=[] from by simp [tk]]
  exact .zero ⟨_,cap,rfl⟩
 ·obtain rfl:=hd (by omega)
  have:=hI.given (off:=off*t.size) (sz:=t.size) (m:=n) (cap:=cap) fe bK (by rw [bb,←Nat.add_mul];exact zW _ hle)
  rw [jm] at this
  exact this
theorem uf {t:Ty} {py:A} {k:List t.T→List Nat→Option β} (hr:ya h t py k=some r):∃l T,k l T=some r∧∀S2,Agree (.rd T) (hp h) S2→∀g w v,Inv g S2 w→V g py v→Given g w v t.size l.length (l.flatMap (aA t)):=by
 cases py with
 | e0=>exact ⟨[],[],hr,fun S2 _ g w v _ hv=>by cases hv with | e0 ad=>exact .zero ⟨ad,0,rfl⟩⟩
 | v x=>cases x with
  | slice ad n c=>cases n with
   | zero=>exact ⟨[],[],hr,fun S2 _ g w v _ hv=>by cases hv;exact .zero ⟨_,_,rfl⟩⟩
   | succ n=>cases hr
  | _=>cases hr
 | tl t' f l=>
  unfold ya at hr
  simp only at hr
  split at hr
  ·rename_i l' hl
   obtain ⟨e,rfl⟩:=cr hl
   cases e
   obtain ⟨h1,hr⟩:=af hr
   exact ⟨_,[],hr,fun S2 _ g w v hI hv=>hv.ud hI h1⟩
  ·cases hr
 | nn t' l=>
  unfold ya at hr
  simp only at hr
  split at hr
  ·rename_i l' hl
   obtain ⟨e,rfl⟩:=cr hl
   cases e
   obtain ⟨h1,hr⟩:=af hr
   exact ⟨_,[],hr,fun S2 _ g w v hI hv=>by cases hv with | nn _ _ a n c h=>exact (V.tl _ false _ _ h).ud hI h1⟩
  ·cases hr
 | os q z o=>
  rcases iL (show opt o (k [] []) _=some r from hr) with ⟨e0,hr⟩ | ⟨jj,e0,hr⟩
  ·exact ⟨[],[],hr,fun S2 _ g w v _ hv=>by
    cases hv with
    | os _ _ _ _ h0 _=>cases h0 e0 with | e0 ad=>exact .zero ⟨ad,0,rfl⟩⟩
  ·obtain ⟨t',l,hr,hX,fe⟩:=eX (show jL h (.eH q jj) _=some r from hr)
   split at hr
   ·rename_i l' hl
    obtain ⟨e,rfl⟩:=cr hl
    cases e
    obtain ⟨h1,hk⟩:=af hr
    simp only [zC] at h1
    have ez:=beq_eq h1.1
    subst ez
    refine ⟨_,_,hk,fun S2 hA g w v hI Nj=>?_⟩
    have hv:V g (.tw (.eH q jj) t.size) v:=by cases Nj with | os _ _ _ _ _ h1=>exact h1 jj e0
    have dX:=(hA _ (bG hX (.head _))).1.trans fe
    rcases hv.rb hI (aY h1.2) dX with ⟨ad,_,rfl,rfl⟩ | ⟨b,s,cap,d,bK,rfl,hd,hn,_⟩
    ·exact .zero ⟨ad,0,rfl⟩
    ·rcases Nat.eq_zero_or_pos l.length with h0 | h0
     ·have:l=[]:=zZ h0
      subst this
      exact .zero ⟨_,cap,rfl⟩
     ·obtain rfl:=hd (by omega)
      have:=hI.given (off:=0) (sz:=t.size) (m:=l.length) (cap:=cap) dX bK (by rw [bb];omega)
      rw [List.drop_zero,za (by rw [bb];exact Nat.le_refl _)] at this
      exact this
   ·cases hr
 | tw X z=>
  obtain ⟨t',l,hr,hX,fe⟩:=eX (show jL h X _=some r from hr)
  split at hr
  ·rename_i l' hl
   obtain ⟨e,rfl⟩:=cr hl
   cases e
   obtain ⟨h1,hk⟩:=af hr
   simp only [zC] at h1
   obtain rfl:=beq_eq h1.1
   refine ⟨_,_,hk,fun S2 hA g w v hI hv=>?_⟩
   have dX:=(hA _ (bG hX (.head _))).1.trans fe
   rcases hv.rb hI (aY h1.2) dX with ⟨ad,_,rfl,rfl⟩ | ⟨b,s,cap,d,bK,rfl,hd,hn,_⟩
   ·exact .zero ⟨ad,0,rfl⟩
   ·rcases Nat.eq_zero_or_pos l.length with h0 | h0
    ·have:l=[]:=zZ h0
     subst this
     exact .zero ⟨_,cap,rfl⟩
    ·obtain rfl:=hd (by omega)
     have:=hI.given (off:=0) (sz:=t.size) (m:=l.length) (cap:=cap) dX bK (by rw [bb];omega)
     rw [List.drop_zero,za (by rw [bb];exact Nat.le_refl _)] at this
     exact this
  ·cases hr
 | ts X z off n=>
  obtain ⟨t',l,hr,hX,fe⟩:=eX (show jL h X _=some r from hr)
  split at hr
  ·rename_i l' hl
   obtain ⟨e,rfl⟩:=cr hl
   cases e
   obtain ⟨h1,hk⟩:=af hr
   simp only [zC] at h1
   obtain rfl:=beq_eq h1.1
   refine ⟨_,_,hk,fun S2 hA g w v hI hv=>?_⟩
   have dX:=(hA _ (bG hX (.head _))).1.trans fe
   have hle:=tg hI (aY h1.2) dX hv
   cases hv with
   | tj _ _ _ _ ad _ hn=>
    rw [show n=0 by omega,show tk 0 (dr off l)=[] by simp [tk]]
    exact .zero ⟨ad,0,rfl⟩
   | ts _ _ _ _ b cap s bK hn hx hs No d hd=>exact piece hI (aY h1.2) dX bK hle (fun LY=>hd (by omega))
  ·cases hr
 | tf X z off n=>
  obtain ⟨t',l,hr,hX,fe⟩:=eX (show jL h X _=some r from hr)
  split at hr
  ·rename_i l' hl
   obtain ⟨e,rfl⟩:=cr hl
   cases e
   obtain ⟨h1,hk⟩:=af hr
   simp only [zC] at h1
   obtain rfl:=beq_eq h1.1
   refine ⟨_,_,hk,fun S2 hA g w v hI hv=>?_⟩
   have dX:=(hA _ (bG hX (.head _))).1.trans fe
   cases hv with
   | Dz _ _ _ _ ad _ hn=>
    rw [show n=0 by omega,show tk 0 (dr off l)=[] by simp [tk]]
    exact .zero ⟨ad,0,rfl⟩
   | tf _ _ _ _ b s bK hx hs d hd=>
    have hle:off+n≤l.length:=by
     rcases hI.cells _ _ dX with ⟨k1,_⟩ | ⟨b',Hs,k1,_⟩
     ·rw [k1] at bK;cases bK
     rw [k1] at bK
     simp only [zI,zU] at bK
     obtain ⟨_,rfl⟩:=bK
     simp only [bb] at hs
     exact Nat.le_of_mul_le_mul_right hs (aY h1.2)
    exact piece hI (aY h1.2) dX bK hle hd
  ·cases hr
 | aa X π n z=>
  obtain ⟨sg,hk,hX,h2⟩:=tC (show rJ h X π _=some r from hr)
  split at hk
  ·rename_i l hl
   obtain ⟨st,sx⟩:=sg
   obtain ⟨e,hl⟩:=cr hl
   simp only at e hl h2
   subst e
   simp only at hl
   subst hl
   obtain ⟨h1,hk⟩:=af hk
   refine ⟨_,_,hk,fun S2 hA g w v hI hv=>?_⟩
   obtain rfl:=beq_eq h1
   cases hv with
   | aa _ _ _ _ b cap s bK hp hn hx=>
    have ha:=hA _ (bG hX (.head _))
    obtain ⟨a,c,q1,q2⟩:=h2 g _ w _ hI ha.1 ha.2 (.tp X π b s bK hp)
    have e1:(yY (α:=t.T) t.cQ n sx).flatMap (aA t)=aA (.arr n t) sx:=CF _ _ _ _
    have e3:(yY (α:=t.T) t.cQ n sx).length=n:=FL _ _ _
    have e2:(aA (.arr n t) sx).length=n*t.size:=bI (.arr n t) sx
    have:=hI.given (off:=dE π) (sz:=t.size) (m:=n) (cap:=cap) q1 bK (by simp only [zY];rw [e2];omega)
    rw [←q2,List.drop_left,←e2,List.take_left,q2] at this
    exact Eq.subst (motive:=fun k=>Given g w _ t.size k _) e3.symm (Eq.subst (motive:=fun cs=>Given g w _ t.size n cs) e1.symm this)
  ·cases hk
 | sl q off z n=>
  unfold ya at hr
  simp only at hr
  split at hr
  ·rename_i cs hg
   obtain ⟨h1,hr⟩:=af hr
   simp only [zC] at h1
   have hq:=aY h1.1.1
   obtain rfl:=beq_eq h1.1.2
   split at hr
   ·rename_i l hy
    refine ⟨_,_,hr,fun S2 hA g w v hI hv=>?_⟩
    obtain ⟨z1,z2,z3⟩:=oP (g:=g) (fun cs x h=>jJ t cs x h) _ _ _ hy
    have fe:(hp h).ob q=some (.cells cs):=by rw [ku hq];unfold fO;rw [hg];rfl
    cases hv with
    | sl _ _ _ _ b cap s bK hn hx hs=>
     rw [z2]
     exact (hI.given ((hA q (aB hq (.head _))).1.trans fe) bK (Nat.le_of_ble_eq_true h1.2)).conv z3
   ·cases hr
  ·cases hr
 | _=>cases hr
end
end
set_option linter.unusedVariables false
set_option linter.unusedSimpArgs false
section
open Go.RowKit
section
variable {P:Program} {E:Env} {o:Oper} {ρ:Operand→A} {h:H} {β:Type} {K:A→H→Fp→Option β} {r:β}
theorem wj (t:Ty) (n:Nat) (x:t.T):(rep n x).flatMap (aA t)=pX n (aA t x):=by
 unfold rep pX
 induction n with
 | zero=>rfl
 | succ n ih=>rw [List.replicate_succ,List.replicate_succ,List.flatMap_cons,List.flatten_cons,ih]
def mkK (E:Env) (T:Nat) (same:Bool) (px:A) (h:H) (K:A→H→Fp→Option β):Option β:=match yE E T with
 | some el=>match cu E.dP el,px with
  | some e,.v (.int _ m)=>match e.t with
   | some t=>bif same && Nat.blt 0 e.size && Nat.ble (16777216*e.bytes) 281474976710656 then gd (bn m) (gd (bp (nN m) 16777216) (nF (.row t (rep (nN m) t.cQ)) h (fun q h'=>K (.tw (.loc q) e.size) h' (.wr [dz q])))) else none
   | none=>none
  | _,_=>none
 | none=>none
theorem M5 (hE:bT P E) {T:Nat} {x y:Operand} {same:Bool} (ho:o.op = .makeSlice T x y) (hs:same=true→x=y) (hr:mkK E T same (ρ x) h K=some r):Out P o ρ h K r:=by
 have hd:∀c,o.op≠.defer c:=by rw [ho];intro c e;cases e
 unfold mkK at hr
 split at hr
 ·rename_i el he
  split at hr
  ·rename_i e k m ht hx
   split at hr
   ·rename_i t xO
    obtain ⟨h1,hr⟩:=af hr
    simp only [zC] at h1
    obtain rfl:=hs h1.1.1
    obtain ⟨h2,hr⟩:=bz hr
    obtain ⟨h3,hr⟩:=bz hr
    have h3:nN m≤16777216:=h3
    obtain ⟨h',k1,hq,hf,hh⟩:=fW hr
    have hk:=hE.dP _ _ ht
    have hb:=Nat.le_of_ble_eq_true h1.2
    refine ⟨_,_,_,k1,.of _ hh rfl (fun u hu=>by rcases zF.1 hu with rfl;exact aB (o:=h.aR) hq (.head _)) (fun S2 hA=>?_) hd⟩
    have e1:gH.low (.row t (rep (nN m) t.cQ)) = .cells (pX (nN m) (aA t t.cQ)):=congrArg Ob.cells (wj t _ _)
    rw [e1]
    have oz:ρ x = .v (.int k ((nN m:Nat):Int)):=by rw [hx,nU h2]
    exact sT ho (o9 hE he) hk.ti (aY h1.1.2) oz oz (Nat.le_trans (zW _ h3) hb) (by omega) ((hA _ (aB hq (.head _))).2.2 hf) (hk.tz t xO)
   ·cases hr
  ·cases hr
 ·cases hr
def N0 (h:H) (X:Ref) (k:H→Option β):Option β:=bif wR h (jg X) then none else match X with
 | .loc o=>fg h.t o none (fun t1=>k { h with t:=t1 })
 | .eH r j=>match bq h.rg r with
  | some ⟨_,.row t',c⟩=>bif Nat.blt r 64 then gd (bu j (len (α:=Option (List t'.T)) c)) (k { h with rg:=jK h.rg r (.row t') (upd (α:=Option (List t'.T)) c j none) }) else none
  | _=>none
theorem rA {t:Ty} {c:List (Option (List t.T))} {j:Nat} (hj:j<c.length) (i:Nat):dQ (.row t) (upd c j none) i=if i=j then none else dQ (.row t) c i:=by
 show (match lA (upd c j none) i with | some (some l)=>some (Ob.cells (l.flatMap (aA t))) | _=>none)=if i=j then none else (match lA c i with | some (some l)=>some (Ob.cells (l.flatMap (aA t))) | _=>none)
 rw [pn]
 by_cases h:i=j
 ·subst h;rw [if_pos ⟨rfl,hj⟩,if_pos rfl]
 ·rw [if_neg (fun k=>h k.1),if_neg h]
theorem AX {X:Ref} {k:H→Option β} (hr:N0 h X k=some r):∃h',k h'=some r∧B8 X=true∧hp h'=app [.del X.id] (hp h)∧h'.aR=h.aR:=by
 obtain ⟨_,hr⟩:=jH hr
 cases X with
 | loc o=>
  obtain ⟨hq,t1,k1,k2⟩:=bo hr
  exact ⟨_,k1,by show Nat.blt o 16777216=true;simpa using (Ci hq),rY (Ci hq) k2,rfl⟩
 | eH r j=>
  simp only at hr
  split at hr
  ·rename_i _ t' c hf
   obtain ⟨h3,hr⟩:=af hr
   obtain ⟨h4,hr⟩:=bz hr
   have eO:j<List.length (α:=Option (List t'.T)) c:=h4
   refine ⟨_,hr,h3,?_,rfl⟩
   exact rX (j:=j) (u:=.del (fE r j)) (aY h3) hf (qR (α:=Option (List t'.T)) c j _) (fun i hi=>by rw [rA (c:=c) eO,if_neg hi]) rfl (by rw [rA (c:=c) eO,if_pos rfl];exact if_pos rfl) rfl
  ·cases hr
def uQ:A→Bool
 | .e0=>true
 | .v (.slice _ 0 0)=>true
 | _=>false
theorem V.Cb {g:G} {p:A} {v:Value} (hv:V g p v) (h:uQ p=true):∃ad,v = .slice ad 0 0:=by
 unfold uQ at h
 split at h
 ·cases hv with | e0 ad=>exact ⟨ad,rfl⟩
 ·cases hv;exact ⟨_,rfl⟩
 ·cases h
theorem sW {S:Hp} {T E':TypeId} {z b m n:Nat} {X:Ref} {zv:Value} {cs ps:List A} {x y:Operand} (ho:o.op = .call { callee:=.builtin .append,args:=#[x,y],argTypes:=#[T,T] }) (hT:P.underlying T=some (.slice E')) (hE:TI P E' z b zv) (h0:0<z)
  (hp:S.ob X.id=some (.cells cs)) (hx:ρ x = .ts X z 0 n) (qC:(n+m)*z≤cs.length) (hy:∀g w v,Inv g S w→V g (ρ y) v→Given g w v z m ps):fc P o ρ S (S.set X.id (.cells (put cs (n*z) ps))) (.ts X z 0 (n+m)):=
 .app ho fun g w a hI e1 e2=>by
  obtain ⟨i,t1,t2,t3,t4,t5,t6⟩:=hE
  subst t3 t4
  have IU:eQ P E' i.size:=⟨i,t1,rfl⟩
  obtain ⟨A2,mB,us,wW,qe,o_,yQ⟩:=hy g w _ hI e2
  rw [hx] at e1
  generalize hu:a.eval x=vx at e1 ⊢
  cases e1 with
  | tj _ _ _ _ ad hg hn=>
   rcases hI.cells X.id cs hp with ⟨_,k2⟩ | ⟨b',t,k1,_⟩
   ·subst k2
    have hn:n=0:=by omega
    subst hn
    have hm:m=0:=by
     rcases Nat.eq_zero_or_pos m with h | h
     ·exact h
     ·have:0<(0+m)*i.size:=Nat.mul_pos (by omega) h0
      simp only [List.length_nil] at qC;omega
    subst hm
    have sZ:ps=[]:=zZ (by rw [qe.1,o_];simp)
    subst sZ
    have hS:S.set X.id (.cells (put [] (0*i.size) []))=S:=by
     refine Hp.ext' (fun j=>?_) (fun j=>Iff.rfl)
     show (if j=X.id then some (.cells (put [] (0*i.size) [])) else S.ob j)=S.ob j
     by_cases hj:j=X.id
     ·subst hj;rw [if_pos rfl,hp];simp [put]
     ·rw [if_neg hj]
    rw [hS,wW]
    exact ⟨_,g,w,g7 w T E' o.type hT IU _ A2 0 0 mB (Nat.le_refl _),.tj X i.size 0 (0+0) ad hg (by simp),hI,.refl S g w⟩
   ·rw [k1] at hg;cases hg
  | ts _ _ _ _ bk cap s hg YV OW hs No d hd hq=>
   rw [wW]
   rw [Nat.zero_add] at No hq
   have sZ:ps.length=m*i.size:=by rw [qe.1,o_]
   have hlen:(put cs (n*i.size) ps).length=cs.length:=uu (by rw [sZ,←Nat.add_mul];exact qC)
   rcases hI.cells X.id cs hp with ⟨k1,_⟩ | ⟨b',t,k1,cur,ty,k2,pO,k3⟩
   ·rw [k1] at hg;cases hg
   have OV:=hg
   rw [k1] at hg;simp at hg
   obtain ⟨rfl,rfl⟩:=hg
   simp only at hq No hs
   have qB:n+m≤cap:=Nat.le_of_mul_le_mul_right (Nat.le_trans qC hq) h0
   have nW:(0+(n+m))*i.size≤(cs.length,t).1:=by rw [Nat.zero_add];exact qC
   have qK:∀g',g'.bm X.id=some (some b',(cs.length,t))→V g' (.ts X i.size 0 (n+m)) (.slice (some ⟨b',d,none⟩) (n+m) cap):=fun g' bK=>.ts X i.size 0 (n+m) b' cap _ bK qB OW nW (by rw [Nat.zero_add];exact No) d hd (by rw [Nat.zero_add];exact hq)
   rcases Nat.eq_zero_or_pos m with rfl | hm
   ·have sZ:ps=[]:=zZ (by rw [sZ];simp)
    subst sZ
    have Cr:put cs (n*i.size) []=cs:=by simp [put]
    have hS:S.set X.id (.cells (put cs (n*i.size) []))=S:=by
     rw [Cr]
     refine Hp.ext' (fun j=>?_) (fun j=>Iff.rfl)
     show (if j=X.id then some (.cells cs) else S.ob j)=S.ob j
     by_cases hj:j=X.id
     ·subst hj;rw [if_pos rfl,hp]
     ·rw [if_neg hj]
    rw [hS]
    exact ⟨_,g,w,g7 w T E' o.type hT IU _ A2 n cap mB YV,qK g OV,hI,.refl S g w⟩
   ·obtain ⟨Hk,rfl,mO⟩:=yQ hm
    obtain rfl:=hd (by omega)
    have OS:(n+m)*i.size≤cs.length:=qC
    rw [Nat.add_mul] at OS
    obtain ⟨ai_,ty',c1,c2,c3,c4⟩:=hI.store (off:=n*i.size) hp OV qe (by rw [sZ];exact OS)
    rw [k2] at c1
    simp only [zI,Obj.cells.injEq,and_true] at c1
    obtain ⟨rfl,rfl⟩:=c1
    have eL:=lq (P:=P) w T o.type E' ty i hT t1 b' n cap cur k2 Hk m mB us o_ mO qe.one qB c2
    rw [Nat.zero_mul]
    exact ⟨_,g,_,eL,by have:=qK g OV;rwa [Nat.zero_mul] at this,c3,c4⟩
def On (E:Env) (T:Nat) (px py:A) (h:H) (K:A→H→Fp→Option β):Option β:=match yE E T with
 | some el=>match cu E.dP el with
  | some e=>match e.t with
   | some t=>bif Nat.blt 0 e.size && Nat.ble (16777216*e.bytes) 140737488355328 then ya h t py (fun l T1=>
    bif uQ px then gd (bp (len l) 16777216) (nF (.row t l) h (fun q h'=>K (.tw (.loc q) e.size) h' (.pt (dz q) T1)))
    else match px with
    | .tw X z=>jL h X (fun t' l0=>match fR (.aF t') (.aF t) l0 with
     | some l0=>bif Nat.beq z e.size then gd (bp (aK (len (α:=t.T) l0) (len l)) 16777216) (N0 h X (fun h1=>nF (.row t (cat (α:=t.T) l0 l)) h1 (fun q h2=>K (.tw (.loc q) e.size) h2 (.p2 (dz q) (jg X) T1)))) else none
     | none=>none)
    | .ts X z 0 n=>jL h X (fun t' l0=>match fR (.aF t') (.aF t) l0 with
     | some l0=>bif Nat.beq z e.size then (match py with
      | .ts _ _ _ _=>gd (bp (aK n (len l)) (len (α:=t.T) l0)) (rI h X t (cat (tk (α:=t.T) n l0) (cat l (dr (α:=t.T) (aK n (len l)) l0))) (fun h1=>K (.ts X z 0 (aK n (len l))) h1 (.wr (jg X::T1))))
      | _=>gd (bp (aK n (len l)) 16777216) (N0 h X (fun h1=>nF (.row t (cat (tk (α:=t.T) n l0) l)) h1 (fun q h2=>K (.tw (.loc q) e.size) h2 (.p2 (dz q) (jg X) T1))))) else none
     | none=>none)
    | .tf X z off n=>br (ak (zN n) 0) (gd (bp (len l) 16777216) (nF (.row t l) h (fun q h'=>K (.tw (.loc q) e.size) h' (.pt (dz q) T1)))) (jL h X (fun t' l0=>match fR (.aF t') (.aF t) l0 with
     | some l0=>bif Nat.beq z e.size then gd (bu 0 (len l)) (gd (bp (aK n (len l)) 16777216) (nF (.row t (cat (tk n (dr (α:=t.T) off l0)) l)) h (fun q h2=>K (.tw (.loc q) e.size) h2 (.p2 (dz q) (jg X) T1)))) else none
     | none=>none))
    | _=>none) else none
   | none=>none
  | none=>none
 | none=>none
theorem jD (t:Ty) (a b:List t.T):(cat a b).flatMap (aA t)=a.flatMap (aA t)++b.flatMap (aA t):=List.flatMap_append
theorem vc (t:Ty) (n:Nat) (l:List t.T):(tk n l).flatMap (aA t)=(l.flatMap (aA t)).take (n*t.size):=by
 have:=jm t l 0 n
 simpa [tk] using this.symm
theorem vd (t:Ty) (n:Nat) (l:List t.T):(dr n l).flatMap (aA t)=(l.flatMap (aA t)).drop (n*t.size):=by
 have:=jm t l n l.length
 rw [za (by rw [List.length_drop,bb];omega),za (by simp)] at this
 exact this.symm
theorem LJ {t:Ty} {X:Ref} {l:List t.T} {h1 h2:H} {T1:List Nat} {pv:A} (hd:∀c,o.op≠.defer c) (hX:B8 X=true) (e1:hp h1=app [.del X.id] (hp h)) (hn:h1.aR=h.aR) (hq:h1.aR<16777216) (hf:(hp h1).fr h1.aR) (e2:hp h2=app [.new h1.aR (gH.row t l).low] (hp h1))
  (k:∀S2,Agree (.p2 (dz h1.aR) (jg X) T1) (hp h) S2→S2.fr h1.aR→fc P o ρ S2 ((S2.del X.id).new h1.aR (.cells (l.flatMap (aA t)))) pv):Step P o ρ h h2 (.p2 (dz h1.aR) (jg X) T1) pv:=
 .YG [.del X.id,.new h1.aR (.cells (l.flatMap (aA t)))] (by rw [e2,e1];rfl) (fun u hu=>by
  rcases List.mem_cons.1 hu with rfl | hu
  ·exact bG hX (.tail _ (.head _))
  ·rcases zF.1 hu with rfl;exact aB (o:=h1.aR) hq (.head _)) (fun u hu=>by
  show touch (.wr [dz h1.aR,jg X]) u.id=true
  rcases List.mem_cons.1 hu with rfl | hu
  ·exact bG hX (.tail _ (.head _))
  ·rcases zF.1 hu with rfl;exact aB (o:=h1.aR) hq (.head _)) (fun S2 hA=>k S2 hA ((hA _ (aB hq (.head _))).2.2 (by rw [e1] at hf;exact hf))) hd
theorem Js (hE:bT P E) {T:Nat} {x y:Operand} (ho:o.op = .call { callee:=.builtin .append,args:=#[x,y],argTypes:=#[T,T] }) (hr:On E T (ρ x) (ρ y) h K=some r):Out P o ρ h K r:=by
 have hd:∀c,o.op≠.defer c:=by rw [ho];intro c e;cases e
 unfold On at hr
 split at hr
 ·rename_i el he
  have hT:=o9 hE he
  split at hr
  ·rename_i e ht
   have hk:=hE.dP _ _ ht
   split at hr
   ·rename_i t xO
    have nW:=hk.ts t xO
    obtain ⟨hb,hr⟩:=af hr
    simp only [zC] at hb
    have h0:=aY hb.1
    have hb:=Nat.le_of_ble_eq_true hb.2
    have Hi:∀{n:Nat},n≤16777216→n*e.bytes≤140737488355328∧n≤maxLen:=fun hn=>⟨Nat.le_trans (zW _ hn) hb,by unfold maxLen;omega⟩
    obtain ⟨l,T1,hr,uU⟩:=uf hr
    rw [nW] at uU
    cases s7:uQ (ρ x) with
    | true=>
     rw [s7] at hr;simp only [cond_true] at hr
     obtain ⟨h2,hr⟩:=bz hr
     have h2:l.length≤16777216:=h2
     obtain ⟨h',k1,hq,hf,hh⟩:=fW hr
     exact ⟨_,_,_,k1,.YG _ hh (fun u hu=>by rcases zF.1 hu with rfl;exact aB (o:=h.aR) hq (.head _)) (fun u hu=>by rcases zF.1 hu with rfl;exact aB (l:=[dz h.aR]) (w:=false) (s:=[]) (o:=h.aR) hq (.head _))
      (fun S2 hA=>mJ ho hT hk.ti (fun g v hv=>hv.Cb s7) (uU S2 (hA.mono fun i hi=>.tail _ hi)) ((hA _ (aB hq (.head _))).2.2 hf) (Hi h2).1 (Hi h2).2) hd⟩
    | false=>
     rw [s7] at hr;simp only [cond_false] at hr
     split at hr
     ·rename_i X z hx
      obtain ⟨t',l0,hr,hX,fe⟩:=eX hr
      split at hr
      ·rename_i YJ hl
       obtain ⟨e',rfl⟩:=cr hl
       cases e'
       obtain ⟨hz,hr⟩:=af hr
       have hz:=beq_eq hz
       obtain ⟨h2,hr⟩:=bz hr
       have h2:l0.length+l.length≤16777216:=h2
       obtain ⟨h1,hr,_,e1,hn⟩:=AX hr
       obtain ⟨h',k1,hq,hf,hh⟩:=fW hr
       refine ⟨_,_,_,k1,LJ hd hX e1 hn hq hf hh (fun S2 hA oH=>?_)⟩
       have dX:=(hA _ (bG hX (.tail _ (.head _)))).1.trans fe
       have:=rN (P:=P) (n:=l0.length) (m:=l.length) (z:=e.size) ho hT hk.ti h0 dX (fun g w v hI hv=>by
        rw [hx,hz,←nW] at hv
        rcases hv.rb hI (by rw [nW];exact h0) dX with ⟨ad,_,rfl,rfl⟩ | ⟨b,s,cap,d,bK,rfl,k2,k3,k4,k5⟩
        ·exact .inl ⟨ad,rfl,rfl⟩
        ·exact .inr ⟨b,s,cap,d,bK,rfl,k2,k3,k4,by rw [←nW];exact k5⟩) (by rw [bb,nW];exact Nat.le_refl _) (uU S2 (hA.mono fun i hi=>.tail _ (.tail _ hi))) oH (Hi h2).1 (Hi h2).2
       rw [za (by rw [bb,nW];exact Nat.le_refl _),←jD] at this
       exact this
      ·cases hr
     ·rename_i X z n hx
      obtain ⟨t',l0,hr,hX,fe⟩:=eX hr
      split at hr
      ·rename_i YJ hl
       obtain ⟨e',rfl⟩:=cr hl
       cases e'
       obtain ⟨hz,hr⟩:=af hr
       have hz:=beq_eq hz
       split at hr
       ·obtain ⟨h2,hr⟩:=bz hr
        have h2:n+l.length≤l0.length:=h2
        obtain ⟨h1,k1,k2⟩:=nj hX hr
        refine ⟨_,_,_,k1,⟨fun i hi=>k2.1 i (pU (fun j hj=>by rcases zF.1 hj with rfl;exact .head _) hi),fun i hi=>k2.1 i (pU (T:=jg X::T1) (fun j hj=>by rcases zF.1 hj with rfl;exact .head _) (td hi)),fun S2 hA=>?_⟩⟩
        refine fc.LD (fc.bm fun g w a hI hv=>?_) hd
        have hv:=hv x (by simp [ho,Op.operands,Call.operands])
        have dX:=(hA _ (bG hX (.head _))).1.trans fe
        have UX:¬(hp h).fr X.id:=fun hf=>by
         have Fq:=(hA _ (bG hX (.head _))).2.2 hf
         have:=hI.fresh _ Fq
         rw [hx] at hv
         generalize a.eval x=vx at hv
         cases hv with
         | tj _ _ _ _ ad bK=>rw [bK] at this;cases this
         | ts _ _ _ _ b cap s bK=>rw [bK] at this;cases this
        have e1:=k2.2 UX
        have Y4:touch (.wr (jg X::T1)) X.id=true:=bG hX (.head _)
        rw [e1,hP (fun u hu=>by rcases zF.1 hu with rfl;exact Y4) hA]
        have:=sW (P:=P) (n:=n) (m:=l.length) (X:=X) ho hT hk.ti h0 dX (by rw [hx,hz]) (by rw [bb,nW];exact zW _ h2) (uU S2 (hA.mono fun i hi=>.tail _ hi))
        have e2:put (l0.flatMap (aA t)) (n*e.size) (l.flatMap (aA t))=(cat (tk n l0) (cat l (dr (aK n (len l)) l0))).flatMap (aA t):=by
         rw [jD,jD,vc,vd,nW]
         unfold put
         rw [bb,nW,←Nat.add_mul];rfl
        rw [e2] at this
        rw [hz]
        exact this
       ·obtain ⟨h2,hr⟩:=bz hr
        have h2:n+l.length≤16777216:=h2
        obtain ⟨h1,hr,_,e1,hn⟩:=AX hr
        obtain ⟨h',k1,hq,hf,hh⟩:=fW hr
        refine ⟨_,_,_,k1,LJ hd hX e1 hn hq hf hh (fun S2 hA oH=>fc.bm fun g0 w0 a0 Vr Nj=>?_)⟩
        have dX:=(hA _ (bG hX (.tail _ (.head _)))).1.trans fe
        have hle:n≤l0.length:=by
         have hv:=Nj x (by simp [ho,Op.operands,Call.operands])
         rw [hx,hz,←nW] at hv
         have:=tg Vr (by rw [nW];exact h0) dX hv
         omega
        have:=rN (P:=P) (n:=n) (m:=l.length) (z:=e.size) ho hT hk.ti h0 dX (fun g w v hI hv=>by
         rw [hx,hz] at hv
         cases hv with
         | tj _ _ _ _ ad _ hn=>exact .inl ⟨ad,rfl,by omega⟩
         | ts _ _ _ _ b cap s bK k2 k3 k4 k5 d k6=>
          rw [Nat.zero_add] at k5
          exact .inr ⟨b,s,cap,d,bK,rfl,fun hc=>by rw [k6 hc,Nat.zero_mul],k2,k3,k5⟩) (by rw [bb,nW];exact zW _ hle) (uU S2 (hA.mono fun i hi=>.tail _ (.tail _ hi))) oH (Hi h2).1 (Hi h2).2
        rw [←nW,←vc,←jD] at this
        rw [←nW]
        exact this
      ·cases hr
     ·rename_i X z off n hx
      rcases la hr with ⟨LY,hr⟩ | ⟨_,hr⟩
      ·obtain ⟨h2,hr⟩:=bz hr
       have h2:l.length≤16777216:=h2
       have LY:n=0:=by have:=of_decide_eq_true LY;unfold zN at this;omega
       obtain ⟨h',k1,hq,hf,hh⟩:=fW hr
       exact ⟨_,_,_,k1,.YG _ hh (fun u hu=>by rcases zF.1 hu with rfl;exact aB (o:=h.aR) hq (.head _)) (fun u hu=>by rcases zF.1 hu with rfl;exact aB (l:=[dz h.aR]) (w:=false) (s:=[]) (o:=h.aR) hq (.head _))
        (fun S2 hA=>mJ ho hT hk.ti (fun g v hv=>by rw [hx,LY] at hv;cases hv<;>exact ⟨_,rfl⟩) (uU S2 (hA.mono fun i hi=>.tail _ hi)) ((hA _ (aB hq (.head _))).2.2 hf) (Hi h2).1 (Hi h2).2) hd⟩
      obtain ⟨t',l0,hr,hX,fe⟩:=eX hr
      split at hr
      ·rename_i YJ hl
       obtain ⟨e',rfl⟩:=cr hl
       cases e'
       obtain ⟨hz,hr⟩:=af hr
       have hz:=beq_eq hz
       obtain ⟨h3,hr⟩:=bz hr
       have h3:0<l.length:=h3
       obtain ⟨h2,hr⟩:=bz hr
       have h2:n+l.length≤16777216:=h2
       obtain ⟨h',k1,hq,hf,hh⟩:=fW hr
       refine ⟨_,_,_,k1,.YG _ hh (fun u hu=>by rcases zF.1 hu with rfl;exact aB (o:=h.aR) hq (.head _)) (fun u hu=>by rcases zF.1 hu with rfl;exact aB (l:=[dz h.aR,jg X]) (w:=false) (s:=[]) (o:=h.aR) hq (.head _)) (fun S2 hA=>fc.bm fun g0 w0 a0 Vr Nj=>?_) hd⟩
       have dX:=(hA _ (bG hX (.tail _ (.head _)))).1.trans fe
       have hle:off+n≤l0.length:=by
        have hv:=Nj x (by simp [ho,Op.operands,Call.operands])
        rw [hx,hz,←nW] at hv
        generalize a0.eval x=vx at hv
        cases hv with
        | Dz _ _ _ _ _ _ hn=>omega
        | tf _ _ _ _ b s bK _ hs=>
         rcases Vr.cells _ _ dX with ⟨k1,_⟩ | ⟨b',Hs,k1,_⟩
         ·rw [k1] at bK;cases bK
         rw [k1] at bK
         simp only [zI,zU] at bK
         obtain ⟨_,rfl⟩:=bK
         simp only [bb] at hs
         exact Nat.le_of_mul_le_mul_right hs (by rw [nW];exact h0)
       have:=qJ (P:=P) (off:=off*e.size) (n:=n) (m:=l.length) (z:=e.size) ho hT hk.ti h0 (fun g w v hI hv=>by
        rw [hx,hz] at hv
        cases hv with
        | Dz _ _ _ _ ad _ hn=>exact .inl ⟨ad,rfl,by omega⟩
        | tf _ _ _ _ b s bK _ _ d k6=>exact .inr ⟨b,s,d,bK,rfl,k6⟩) dX (by rw [bb,nW,←Nat.add_mul];exact zW _ hle) (uU S2 (hA.mono fun i hi=>.tail _ (.tail _ hi))) h3 ((hA _ (aB hq (.head _))).2.2 hf) (Hi h2).1 (Hi h2).2
       rw [←nW,jm,←jD] at this
       rw [←nW]
       exact this
      ·cases hr
     ·cases hr
   ·cases hr
  ·cases hr
 ·cases hr
end
end
set_option linter.unusedVariables false
set_option linter.unusedSimpArgs false
section
open Go.RowKit
theorem nx {α β:Type} {f:α→List β} {s:Nat} (hf:∀x,(f x).length=s) (l:List α):(l.flatMap f).length=l.length*s:=by
 induction l with
 | nil=>simp
 | cons a l ih=>rw [List.flatMap_cons,zY,ih,hf,zR,Nat.succ_mul,Nat.add_comm]
theorem yU {α β:Type} {f:α→List β} {s:Nat} (hf:∀x,(f x).length=s) (l:List α) (off n:Nat):((l.flatMap f).drop (off*s)).take (n*s)=((l.drop off).take n).flatMap f:=by
 have h1:l.flatMap f=(l.take off).flatMap f++(l.drop off).flatMap f:=by rw [←List.flatMap_append,zP]
 by_cases hl:off≤l.length
 ·have h2:((l.take off).flatMap f).length=off*s:=by rw [nx hf,List.length_take,Nat.min_eq_left hl]
  rw [h1,List.drop_append,List.drop_eq_nil_of_le (by omega),List.nil_append,h2,Nat.sub_self,List.drop_zero]
  generalize l.drop off=k
  have h3:k.flatMap f=(k.take n).flatMap f++(k.drop n).flatMap f:=by rw [←List.flatMap_append,zP]
  by_cases hk:n≤k.length
  ·have h4:((k.take n).flatMap f).length=n*s:=by rw [nx hf,List.length_take,Nat.min_eq_left hk]
   rw [h3,List.take_append_of_le_length (by omega),za (by omega)]
  ·rw [za (by rw [nx hf];exact zW _ (by omega)),za (l:=k) (by omega)]
 ·rw [List.drop_eq_nil_of_le (as:=l) (by omega),List.drop_eq_nil_of_le (by rw [nx hf];exact zW _ (by omega))]
  simp
def qO (ad:Option Addr) (z lo hi c:Nat):Value:=.slice (if c=lo then ad else ad.map (·.add (lo*z))) (hi-lo) (c-lo)
theorem V.xZ {g:G} {t:Ty} {f f':Bool} {l:List t.T} {lo hi:Nat} {v:Value} (hv:V g (.tl t f l) v) (h1:lo≤hi) (h2:hi≤l.length) :
  ∃ad cap,v = .slice ad l.length cap∧l.length≤cap∧(f=true→cap=l.length)∧∀c,hi≤c→c≤cap→(f'=true→c=hi)→V g (.tl t f' (tk (hi-lo) (dr lo l))) (qO ad t.size lo hi c):=by
 cases hv with
 | tl _ _ _ _ hd=>
  generalize qW:List.map (dh t) l=es at hd
  have qg:es.length=l.length:=by rw [←qW,zH]
  have He:es.flatten=l.flatMap (dh t):=by rw [←qW,lC]
  cases hd with
  | ui=>
   have:l=[]:=zZ qg.symm
   subst this
   refine ⟨_,0,rfl,Nat.le_refl _,fun _=>rfl,fun c k1 k2 k3=>?_⟩
   have hc:c=0:=by omega
   have hl:lo=0:=by simp at h2;omega
   have hh:hi=0:=by simpa using h2
   subst hc hl hh
   exact .tl t f' _ _ (by rw [show tk (0-0) (dr 0 ([]:List t.T))=[] by simp [tk]];exact .ui _ _ _)
  | sl _ _ _ a cap vs hz hc hf hn hx hl hm G6=>
   rw [qg] at hc hf
   rw [qg]
   refine ⟨_,cap,rfl,hc,hf,fun c k1 k2 k3=>?_⟩
   unfold qO
   by_cases qC:c=lo
   ·have e1:hi-lo=0:=by omega
    rw [if_pos qC,e1,show c-lo=0 by omega]
    exact .tl t f' _ _ (by rw [show tk 0 (dr lo l)=[] by simp [tk]];exact .ui _ _ _)
   ·rw [if_neg qC]
    cases a with
    | none=>have:=hn rfl;omega
    | some p=>
     have hlen:(tk (hi-lo) (dr lo l)).length=hi-lo:=by simp [tk,dr];omega
     have E_:=yU (f:=dh t) (fun x=>dY t x) l lo (hi-lo)
     rw [He] at hl G6
     have e2:((tk (hi-lo) (dr lo l)).map (dh t)).flatten=((l.flatMap (dh t)).drop (lo*t.size)).take ((hi-lo)*t.size):=by rw [lC,E_];rfl
     have:=VD.sl (M:=g.mem) t.size f' ((tk (hi-lo) (dr lo l)).map (dh t)) (some (p.1,p.2+lo*t.size)) (c-lo) ((vs.drop (lo*t.size)).take ((hi-lo)*t.size))
      (fun e he=>by obtain ⟨x,_,rfl⟩:=List.mem_map.1 he;exact dY t x) (by rw [zH,hlen];omega) (fun h=>by rw [zH,hlen,k3 h]) (fun h=>by cases h) (by omega)
      (by rw [e2];simp only [List.length_take,List.length_drop,hl])
      (fun q j x hq hj=>by
       cases hq
       rw [List.getElem?_take] at hj
       split at hj
       ·rw [List.getElem?_drop] at hj
        have:=hm p _ x rfl hj
        rw [←Nat.add_assoc] at this;exact this
       ·cases hj)
      (fun j d x hj Y0=>by
       rw [e2] at hj
       rw [List.getElem?_take] at hj Y0
       split at hj
       ·rename_i eO
        rw [if_pos eO] at Y0
        rw [List.getElem?_drop] at hj Y0
        exact G6 _ d x hj Y0
       ·cases hj)
     rw [zH,hlen] at this
     have e3:Option.map (fun x:Addr=>x.add (lo*t.size)) (Option.map Ze (some p))=Option.map Ze (some (p.1,p.2+lo*t.size)):=congrArg some (Addr.add_lit _ _ _)
     rw [e3]
     exact .tl t f' _ _ this
section
variable {P:Program} {E:Env} {o:Oper} {ρ:Operand→A} {h:H} {β:Type} {K:A→H→Fp→Option β} {r:β}
def CX (ox:Option A) (d:Nat) (k:Nat→Option β):Option β:=match ox with
 | none=>k d
 | some (.v (.int _ m))=>gd (bn m) (k (nN m))
 | _=>none
theorem kD {x:Option Operand} {d:Nat} {k:Nat→Option β} (hr:CX (x.map ρ) d k=some r):∃n,k n=some r∧Bd ρ d x n:=by
 unfold CX at hr
 split at hr
 ·rename_i hx
  cases x with
  | none=>exact ⟨d,hr,rfl⟩
  | some y=>cases hx
 ·rename_i kd m hx
  cases x with
  | none=>cases hx
  | some y=>
   obtain ⟨h1,h2⟩:=bz hr
   refine ⟨_,h2,kd,?_⟩
   rw [nU h1]
   exact Option.some.inj hx
 ·cases hr
theorem V.KM {g:G} {S:Hp} {w:World} (hI:Inv g S w) {X:Ref} {t:Ty} {l:List t.T} (h0:0<t.size) (ho:S.ob X.id=some (.cells (l.flatMap (aA t)))) {v:Value} (hv:V g (.tw X t.size) v) {lo hi:Nat} (h1:lo≤hi) (h2:hi≤l.length) :
  ∃ad cap,v = .slice ad l.length cap∧l.length≤cap∧V g (.ts X t.size lo (hi-lo)) (qO ad t.size lo hi cap)∧V g (.tf X t.size lo (hi-lo)) (qO ad t.size lo hi hi):=by
 have hlen:=bb t l
 rcases hv.rb hI h0 ho with ⟨ad,bK,rfl,rfl⟩ | ⟨b,s,cap,d,bK,rfl,k2,k3,k4,k5⟩
 ·have hh:hi=0:=by simpa using h2
  have hl:lo=0:=by omega
  subst hh hl
  exact ⟨ad,0,rfl,Nat.le_refl _,.tj X t.size 0 _ ad bK rfl,.Dz X t.size 0 _ ad bK rfl⟩
 ·have hs:s.1=l.length*t.size:=by
   rcases hI.cells _ _ ho with ⟨k1,_⟩ | ⟨b',Hs,k1,_⟩
   ·rw [k1] at bK;cases bK
   rw [k1] at bK
   simp only [zI,zU] at bK
   obtain ⟨_,rfl⟩:=bK
   exact hlen
  have kY:(lo+(hi-lo))*t.size≤s.1:=by rw [hs];exact zW _ (by omega)
  refine ⟨_,cap,rfl,k3,?_,?_⟩
  ·unfold qO
   by_cases hc:cap=lo
   ·rw [if_pos hc]
    refine .ts X t.size lo (hi-lo) b (cap-lo) s bK (by omega) (by omega) kY ?_ d (fun h=>by omega) ?_
    ·rw [show lo+(cap-lo)=cap by omega];exact k5
    ·rw [show lo+(cap-lo)=cap by omega,hs];exact zW _ k3
   ·rw [if_neg hc,Option.map_some,Addr.add_lit]
    have hd:=k2 (by omega)
    refine .ts X t.size lo (hi-lo) b (cap-lo) s bK (by omega) (by omega) kY ?_ _ (fun _=>by omega) ?_
    ·rw [show lo+(cap-lo)=cap by omega];exact k5
    ·rw [show lo+(cap-lo)=cap by omega,hs];exact zW _ k3
  ·unfold qO
   by_cases hc:hi=lo
   ·rw [if_pos hc]
    exact .tf X t.size lo (hi-lo) b s bK (by omega) kY d (fun h=>by omega)
   ·rw [if_neg hc,Option.map_some,Addr.add_lit]
    have hd:=k2 (by omega)
    exact .tf X t.size lo (hi-lo) b s bK (by omega) kY _ (fun _=>by omega)
theorem V.Rq {g:G} {S:Hp} {w:World} (hI:Inv g S w) {X:Ref} {t:Ty} {l:List t.T} (h0:0<t.size) (ho:S.ob X.id=some (.cells (l.flatMap (aA t)))) {off n:Nat} {v:Value} (hv:V g (.ts X t.size off n) v) {lo hi:Nat} (h1:lo≤hi) (h2:off+hi≤l.length) :
  ∃ad cap,v = .slice ad n cap∧hi≤cap∧V g (.ts X t.size (off+lo) (hi-lo)) (qO ad t.size lo hi cap)∧V g (.tf X t.size (off+lo) (hi-lo)) (qO ad t.size lo hi hi):=by
 have hlen:=bb t l
 cases hv with
 | tj _ _ _ _ ad bK hn=>
  rcases hI.cells _ _ ho with ⟨_,k2⟩ | ⟨b',Hs,k1,_⟩
  ·rw [k2] at hlen
   have hl:l.length=0:=by
    rcases Nat.eq_zero_or_pos l.length with h | h
    ·exact h
    ·have:0<l.length*t.size:=Nat.mul_pos h h0
     simp at hlen;omega
   have hh:hi=0:=by omega
   have hl:lo=0:=by omega
   have hof:off=0:=by omega
   have UT:n=0:=by omega
   subst hh hl hof UT
   exact ⟨ad,0,rfl,Nat.le_refl _,.tj X t.size _ _ ad bK rfl,.Dz X t.size _ _ ad bK rfl⟩
  ·rw [k1] at bK;cases bK
 | ts _ _ _ _ b cap s bK hn hx hs hp d hd hq=>
  have Nl:s.1=l.length*t.size:=by
   rcases hI.cells _ _ ho with ⟨k1,_⟩ | ⟨b',Hs,k1,_⟩
   ·rw [k1] at bK;cases bK
   rw [k1] at bK
   simp only [zI,zU] at bK
   obtain ⟨_,rfl⟩:=bK
   exact hlen
  have air:l.length≤off+cap:=by rw [Nl] at hq;exact Nat.le_of_mul_le_mul_right hq h0
  have kY:(off+lo+(hi-lo))*t.size≤s.1:=by rw [Nl];exact zW _ (by omega)
  refine ⟨_,cap,rfl,by omega,?_,?_⟩
  ·unfold qO
   by_cases hc:cap=lo
   ·rw [if_pos hc]
    refine .ts X t.size (off+lo) (hi-lo) b (cap-lo) s bK (by omega) (by omega) kY ?_ d (fun h=>by omega) ?_
    ·rw [show off+lo+(cap-lo)=off+cap by omega];exact hp
    ·rw [show off+lo+(cap-lo)=off+cap by omega];exact hq
   ·rw [if_neg hc,Option.map_some,Addr.add_lit]
    have hd:=hd (by omega)
    refine .ts X t.size (off+lo) (hi-lo) b (cap-lo) s bK (by omega) (by omega) kY ?_ _ (fun _=>by rw [hd,Nat.add_mul]) ?_
    ·rw [show off+lo+(cap-lo)=off+cap by omega];exact hp
    ·rw [show off+lo+(cap-lo)=off+cap by omega];exact hq
  ·unfold qO
   by_cases hc:hi=lo
   ·rw [if_pos hc]
    exact .tf X t.size (off+lo) (hi-lo) b s bK (by omega) kY d (fun h=>by omega)
   ·rw [if_neg hc,Option.map_some,Addr.add_lit]
    have hd:=hd (by omega)
    exact .tf X t.size (off+lo) (hi-lo) b s bK (by omega) kY _ (fun _=>by rw [hd,Nat.add_mul])
def DG (E:Env) (T:Nat) (px:A) (lo hi mx:Option A) (same:Bool) (h:H) (K:A→H→Fp→Option β):Option β:=match cu E.dP T with
 | some ⟨.slice el,_,_,_,_,_,_⟩=>match cu E.dP el with
  | some e=>match px with
   | .e0=>CX lo 0 (fun l=>CX hi 0 (fun n=>gd (bp l n) (gd (bp n 0) (match mx with
    | none=>K .e0 h (.rd [])
    | some _=>bif same && hi.isSome then K .e0 h (.rd []) else none))))
   | .tl t f x=>bif Nat.beq e.size t.size then CX lo 0 (fun l=>CX hi (len x) (fun n=>gd (bp l n) (gd (bp n (len x)) (match mx with
    | none=>K (.tl t (f && hi.isNone) (tk (ay n l) (dr l x))) h .no
    | some _=>bif same && hi.isSome then K (.tl t true (tk (ay n l) (dr l x))) h .no else none)))) else none
   | .tw X z=>jL h X (fun t x=>bif Nat.beq z e.size && Nat.beq z t.size && Nat.blt 0 z then CX lo 0 (fun l=>CX hi (len x) (fun n=>gd (bp l n) (gd (bp n (len x)) (match mx with
    | none=>K (.ts X z l (ay n l)) h (.rd [jg X])
    | some _=>bif same && hi.isSome then K (.tf X z l (ay n l)) h (.rd [jg X]) else none)))) else none)
   | .ts X z off m=>jL h X (fun t x=>bif Nat.beq z e.size && Nat.beq z t.size && Nat.blt 0 z then CX lo 0 (fun l=>CX hi m (fun n=>gd (bp l n) (gd (bp (aK off n) (len x)) (match mx with
    | none=>K (.ts X z (aK off l) (ay n l)) h (.rd [jg X])
    | some _=>bif same && hi.isSome then K (.tf X z (aK off l) (ay n l)) h (.rd [jg X]) else none)))) else none)
   | _=>none
  | none=>none
 | some ⟨.array n el,_,_,_,_,_,_⟩=>match cu E.dP el with
  | some e=>bif lo.isNone && hi.isNone && mx.isNone && Nat.ble n 16777216 then (match px with
   | .tp X π=>K (.aa X π n e.size) h .no
   | .ptr q off=>match h.t.get q with
    | some (.cells cs)=>bif Nat.blt q 16777216 && Nat.ble (off+n*e.size) cs.length then K (.sl q off e.size n) h (.rd [dz q]) else none
    | _=>none
   | _=>none) else none
  | none=>none
 | _=>none
theorem isNone_map {x:Option Operand} (h:(x.map ρ).isNone=true):x=none:=by cases x with | none=>rfl | some y=>cases h
theorem isSome_map {x:Option Operand} (h:(x.map ρ).isSome=true):∃y,x=some y:=by cases x with | none=>cases h | some y=>exact ⟨y,rfl⟩
theorem qV {S:Hp} {T E':TypeId} {x:Operand} {lo hi mx:Option Operand} {z l n d:Nat} {pv pw:A} (ho:o.op = .slice T x lo hi mx) (hT:P.underlying T=some (.slice E')) (hE:eQ P E' z) (uX:Bd ρ 0 lo l) (uY:Bd ρ d hi n) (h1:l≤n)
  (hr:∀g w v,Inv g S w→V g (ρ x) v→∃ad cap,v = .slice ad d cap∧n≤cap∧(mx=none→V g pv (qO ad z l n cap))∧(mx=hi→V g pw (qO ad z l n n))):(mx=none→fc P o ρ S S pv)∧(mx=hi→hi≠none→fc P o ρ S S pw):=
 ⟨fun hm=>by
  subst hm
  exact BX ho hT hE uX h1 (fun g w v hI hv=>let ⟨ad,cap,k1,k2,k3,_⟩:=hr g w v hI hv;⟨ad,d,cap,k1,uY,k2,k3 rfl⟩),
 fun hm hn=>by
  subst hm
  cases L0:mx with
  | none=>exact absurd L0 hn
  | some y=>
   subst L0
   exact rK (hi:=y) (mx:=y) ho hT hE uX uY uY h1 (Nat.le_refl _) (fun g w v hI hv=>let ⟨ad,cap,k1,k2,_,k4⟩:=hr g w v hI hv;⟨ad,d,cap,k1,k2,k4 rfl⟩)⟩
theorem uh (hE:bT P E) {T:Nat} {x:Operand} {lo hi mx:Option Operand} {same:Bool} (ho:o.op = .slice T x lo hi mx) (hs:same=true→mx=hi) (hr:DG E T (ρ x) (lo.map ρ) (hi.map ρ) (mx.map ρ) same h K=some r):Out P o ρ h K r:=by
 have hd:∀c,o.op≠.defer c:=by rw [ho];intro c e;cases e
 unfold DG at hr
 split at hr
 ·rename_i el _ _ _ _ _ _ ht
  have hT:=(hE.dP _ _ ht).u
  split at hr
  ·rename_i e he
   have hz:=(hE.dP _ _ he).ti.size
   have fin:∀{T':List Nat} {pv pw:A} {Sx:Hp→Prop},(∀S2,Agree (.rd T') (hp h) S2→(mx=none→fc P o ρ S2 S2 pv)∧(mx=hi→hi≠none→fc P o ρ S2 S2 pw))→(match mx.map ρ with | none=>K pv h (.rd T') | some _=>bif same && (hi.map ρ).isSome then K pw h (.rd T') else none)=some r→Out P o ρ h K r:=fun {T' pv pw Sx} k hr=>by
    cases hm:mx with
    | none=>
     rw [hm] at hr
     exact .read _ hr (fun S2 hA=>(k S2 hA).1 hm) hd
    | some y=>
     rw [hm] at hr
     obtain ⟨h1,hr⟩:=af hr
     simp only [zC] at h1
     obtain ⟨y',yH⟩:=isSome_map h1.2
     exact .read _ hr (fun S2 hA=>(k S2 hA).2 (hs h1.1) (by rw [yH];intro h;cases h)) hd
   split at hr
   ·rename_i hx
    obtain ⟨l,hr,uX⟩:=kD hr
    obtain ⟨n,hr,uY⟩:=kD hr
    obtain ⟨h1,hr⟩:=bz hr
    obtain ⟨h2,hr⟩:=bz hr
    have h1:l≤n:=h1
    have h2:n≤0:=h2
    have hn:n=0:=by omega
    have hl:l=0:=by omega
    subst hn hl
    exact fin (T':=[]) (Sx:=fun _=>True) (fun S2 _=>qV (pw:=.e0) ho hT hz uX uY h1 (fun g w v hI hv=>by
     rw [hx] at hv
     cases hv with
     | e0 ad=>exact ⟨ad,0,rfl,Nat.le_refl _,fun _=>.e0 _,fun _=>.e0 _⟩)) hr
   ·rename_i t f x' hx
    obtain ⟨hq,hr⟩:=af hr
    have hq:=beq_eq hq
    obtain ⟨l,hr,uX⟩:=kD hr
    obtain ⟨n,hr,uY⟩:=kD hr
    obtain ⟨h1,hr⟩:=bz hr
    obtain ⟨h2,hr⟩:=bz hr
    have h1:l≤n:=h1
    have h2:n≤x'.length:=h2
    refine fin (T':=[]) (Sx:=fun _=>True) (fun S2 _=>qV ho hT hz uX uY h1 (fun g w v hI hv=>?_)) hr
    rw [hx] at hv
    obtain ⟨ad,cap,k1,k2,k3,_⟩:=hv.xZ (f':=f && (hi.map ρ).isNone) h1 h2
    refine ⟨ad,cap,k1,by omega,fun hm=>?_,fun _=>?_⟩
    ·obtain ⟨ad',ady,j1,j2,j3,j4⟩:=hv.xZ (f':=f && (hi.map ρ).isNone) h1 h2
     rw [k1] at j1;cases j1
     rw [hq]
     refine j4 cap (by omega) (Nat.le_refl _) (fun hf=>?_)
     simp only [zC] at hf
     have hh:=isNone_map hf.2
     subst hh
     have:n=len x':=uY
     rw [k3 hf.1,this];rfl
    ·obtain ⟨ad',ady,j1,j2,j3,j4⟩:=hv.xZ (f':=true) h1 h2
     rw [k1] at j1;cases j1
     rw [hq]
     exact j4 n (Nat.le_refl _) (by omega) (fun _=>rfl)
   ·rename_i X z hx
    obtain ⟨t,x',hr,hX,fe⟩:=eX hr
    obtain ⟨hq,hr⟩:=af hr
    simp only [zC] at hq
    have OR:=beq_eq hq.1.1
    have E9:=beq_eq hq.1.2
    have h0:=aY hq.2
    obtain ⟨l,hr,uX⟩:=kD hr
    obtain ⟨n,hr,uY⟩:=kD hr
    obtain ⟨h1,hr⟩:=bz hr
    obtain ⟨h2,hr⟩:=bz hr
    have h1:l≤n:=h1
    have h2:n≤x'.length:=h2
    refine fin (T':=[jg X]) (Sx:=fun _=>True) (fun S2 hA=>qV ho hT hz uX uY h1 (fun g w v hI hv=>?_)) hr
    have dX:=(hA _ (bG hX (.head _))).1.trans fe
    rw [hx,E9] at hv
    obtain ⟨ad,cap,k1,k2,k3,k4⟩:=hv.KM hI (by omega) dX h1 h2
    rw [←E9] at k3 k4
    rw [←OR]
    exact ⟨ad,cap,k1,by omega,fun _=>k3,fun _=>k4⟩
   ·rename_i X z off m hx
    obtain ⟨t,x',hr,hX,fe⟩:=eX hr
    obtain ⟨hq,hr⟩:=af hr
    simp only [zC] at hq
    have OR:=beq_eq hq.1.1
    have E9:=beq_eq hq.1.2
    have h0:=aY hq.2
    obtain ⟨l,hr,uX⟩:=kD hr
    obtain ⟨n,hr,uY⟩:=kD hr
    obtain ⟨h1,hr⟩:=bz hr
    obtain ⟨h2,hr⟩:=bz hr
    have h1:l≤n:=h1
    have h2:off+n≤x'.length:=h2
    refine fin (T':=[jg X]) (Sx:=fun _=>True) (fun S2 hA=>qV ho hT hz uX uY h1 (fun g w v hI hv=>?_)) hr
    have dX:=(hA _ (bG hX (.head _))).1.trans fe
    rw [hx,E9] at hv
    obtain ⟨ad,cap,k1,k2,k3,k4⟩:=hv.Rq hI (by omega) dX h1 h2
    rw [←E9] at k3 k4
    rw [←OR]
    exact ⟨ad,cap,k1,k2,fun _=>k3,fun _=>k4⟩
   ·cases hr
  ·cases hr
 ·rename_i n el _ _ _ _ _ _ ht
  have hT:=(hE.dP _ _ ht).u
  split at hr
  ·rename_i e he
   have hz:=(hE.dP _ _ he).ti.size
   obtain ⟨h1,nH⟩:=af hr
   clear hr
   simp only [zC] at h1
   have e1:=isNone_map h1.1.1.1
   have e2:=isNone_map h1.1.1.2
   have e3:=isNone_map h1.1.2
   have hn:=Nat.le_of_ble_eq_true h1.2
   clear h1
   subst e1 e2 e3
   split at nH
   ·rename_i X π hx
    exact .pure nH (fun S2=>nS ho hT ⟨_,hz⟩ (fun g w v hI hv=>by
     rw [hx] at hv
     cases hv with
     | tp _ _ b s bK hk=>exact ⟨b,_,rfl,.aa X π n e.size b n s bK hk (Nat.le_refl _) (by unfold maxLen;omega)⟩)) hd
   ·rename_i q off hx
    split at nH
    ·rename_i cs hg
     obtain ⟨h2,nH⟩:=af nH
     simp only [zC] at h2
     have hq:=aY h2.1
     have h3:=Nat.le_of_ble_eq_true h2.2
     have fe:(hp h).ob q=some (.cells cs):=by rw [ku hq];unfold fO;rw [hg];rfl
     exact .read _ nH (fun S2 hA=>nS ho hT ⟨_,hz⟩ (fun g w v hI hv=>by
      rw [hx] at hv
      cases hv with
      | ptr _ _ b s bK=>
       have hs:s.1=cs.length:=by
        rcases hI.cells _ _ ((hA q (aB hq (.head _))).1.trans fe) with ⟨k1,_⟩ | ⟨b',Hs,k1,_⟩
        ·rw [k1] at bK;cases bK
        rw [k1] at bK
        simp only [zI,zU] at bK
        obtain ⟨_,rfl⟩:=bK
        rfl
       exact ⟨b,off,rfl,.sl q off e.size n b n s bK (Nat.le_refl _) (by unfold maxLen;omega) (by rw [hs];exact h3)⟩)) hd
    ·cases nH
   ·cases nH
  ·cases hr
 ·cases hr
end
end
set_option linter.unusedVariables false
set_option linter.unusedSimpArgs false
section
open Go.RowKit
section
variable {P:Program} {E:Env} {o:Oper} {ρ:Operand→A} {h:H} {β:Type} {K:A→H→Fp→Option β} {r:β}
theorem Step.put {h1:H} {X:Ref} {x:Ob} {T1:List Nat} {pv:A} (hd:∀c,o.op≠.defer c) (hX:B8 X=true) (k2:xD h h1 X x) (BP:∀(g:G) (S:Hp) (w:World) (a:Act),Inv g S w→(∀x∈o.op.operands,V g (ρ x) (a.eval x))→g.bm X.id≠none)
  (k:∀S2,Agree (.pt (jg X) T1) (hp h) S2→fc P o ρ S2 (S2.set X.id x) pv):Step P o ρ h h1 (.pt (jg X) T1) pv where
 out:=fun i hi=>k2.1 i (by
  have hi:(false || (jg X::T1).any (Nat.beq (res i)))=false:=hi
  rw [List.any_cons,Bool.or_eq_false_iff,Bool.or_eq_false_iff] at hi
  show (false || [jg X].any (Nat.beq (res i)))=false
  rw [List.any_cons,hi.2.1];rfl)
 rd:=fun i hi=>k2.1 i (by simpa [wt,touch,Fp.pt,Fp.wr] using hi)
 ok:=fun S2 hA=>by
  refine fc.LD (fc.bm fun g w a hI hv=>?_) hd
  have Y4:touch (.pt (jg X) T1) X.id=true:=bG hX (.head _)
  have UX:¬(hp h).fr X.id:=fun hf=>BP g S2 w a hI hv (hI.fresh _ ((hA _ Y4).2.2 hf))
  rw [k2.2 UX,hP (fun u hu=>by rcases zF.1 hu with rfl;exact Y4) hA]
  exact k S2 hA
theorem V.atw {g:G} {X:Ref} {z:Nat} {v:Value} (hv:V g (.tw X z) v):g.bm X.id≠none:=by cases hv<;>simp_all
theorem V.ats {g:G} {X:Ref} {z off n:Nat} {v:Value} (hv:V g (.ts X z off n) v):g.bm X.id≠none:=by cases hv<;>simp_all
def Gi (E:Env) (T:Nat) (px py:A) (h:H) (K:A→H→Fp→Option β):Option β:=match yE E T with
 | some el=>match cu E.dP el with
  | some e=>match e.t,px with
   | some t,.tw X z=>bif Nat.blt 0 e.size then ya h t py (fun l T1=>jL h X (fun t' l0=>match fR (.aF t') (.aF t) l0 with
    | some l0=>bif Nat.beq z e.size then gd (bu 0 (len (α:=t.T) l0)) (gd (bp (len l) (len (α:=t.T) l0)) (rI h X t (cat l (dr (α:=t.T) (len l) l0)) (fun h1=>K (.v (.int .i64 (zN (len l)))) h1 (.pt (jg X) T1)))) else none
    | none=>none)) else none
   | _,_=>none
  | none=>none
 | none=>none
theorem Gh (hE:bT P E) {T T':Nat} {x y:Operand} (ho:o.op = .call { callee:=.builtin .copy,args:=#[x,y],argTypes:=#[T,T'] }) (hr:Gi E T (ρ x) (ρ y) h K=some r):Out P o ρ h K r:=by
 have hd:∀c,o.op≠.defer c:=by rw [ho];intro c e;cases e
 unfold Gi at hr
 split at hr
 ·rename_i el he
  split at hr
  ·rename_i e ht
   have hk:=hE.dP _ _ ht
   split at hr
   ·rename_i t X z xO hx
    have nW:=hk.ts t xO
    obtain ⟨h0,hr⟩:=af hr
    have h0:=aY h0
    obtain ⟨l,T1,hr,uU⟩:=uf hr
    obtain ⟨t',l0,hr,hX,fe⟩:=eX hr
    split at hr
    ·rename_i YJ hl
     obtain ⟨e',rfl⟩:=cr hl
     cases e'
     obtain ⟨hz,hr⟩:=af hr
     have hz:=beq_eq hz
     obtain ⟨h1,hr⟩:=bz hr
     have h1:0<l0.length:=h1
     obtain ⟨h2,hr⟩:=bz hr
     have h2:l.length≤l0.length:=h2
     obtain ⟨h',k1,k2⟩:=nj hX hr
     refine ⟨_,_,_,k1,.put hd hX k2 (fun g S w a hI hv=>?_) (fun S2 hA=>?_)⟩
     ·have hv:=hv x (by simp [ho,Op.operands,Call.operands])
      rw [hx] at hv
      exact hv.atw
     ·have dX:=(hA _ (bG hX (.head _))).1.trans fe
      have:=Et (P:=P) (ρ:=ρ) (n:=l0.length) (m:=l.length) (off:=0) (z:=e.size) ho (o9 hE he) hk.ti.size (fun g w v hI hv=>by
       rw [hx,hz,←nW] at hv
       rcases hv.rb hI (by rw [nW];exact h0) dX with ⟨ad,_,rfl,rfl⟩ | ⟨b,s,cap,d,bK,rfl,k2,k3,k4,k5⟩
       ·simp at h1
       ·exact ⟨b,s,cap,d,bK,rfl,fun _=>k2 (by omega)⟩) dX (by rw [bb,nW];omega) (by have:=uU S2 (hA.mono fun i hi=>.tail _ hi);rwa [nW] at this) h2
      have e2:put (l0.flatMap (aA t)) 0 (l.flatMap (aA t))=(cat l (dr (len l) l0)).flatMap (aA t):=by
       rw [jD,vd]
       unfold put
       rw [bb,List.take_zero,List.nil_append,Nat.zero_add];rfl
      rw [e2] at this
      exact this
    ·cases hr
   ·cases hr
  ·cases hr
 ·cases hr
def Oa (E:Env) (T:Nat) (px:A) (h:H) (K:A→H→Fp→Option β):Option β:=match yE E T with
 | some el=>match cu E.dP el with
  | some e=>match e.t,px with
   | some t,.ts X z off n=>bif Nat.blt 0 e.size then jL h X (fun t' l0=>match fR (.aF t') (.aF t) l0 with
    | some l0=>bif Nat.beq z e.size then gd (bu 0 n) (rI h X t (cat (tk (α:=t.T) off l0) (cat (rep n t.cQ) (dr (α:=t.T) (aK off n) l0))) (fun h1=>K .cG h1 (.wr [jg X]))) else none
    | none=>none) else none
   | _,_=>none
  | none=>none
 | none=>none
theorem Ji (hE:bT P E) {T:Nat} {x:Operand} (ho:o.op = .call { callee:=.builtin .clear,args:=#[x],argTypes:=#[T] }) (hr:Oa E T (ρ x) h K=some r):Out P o ρ h K r:=by
 have hd:∀c,o.op≠.defer c:=by rw [ho];intro c e;cases e
 unfold Oa at hr
 split at hr
 ·rename_i el he
  split at hr
  ·rename_i e ht
   have hk:=hE.dP _ _ ht
   split at hr
   ·rename_i t X z off n xO hx
    have nW:=hk.ts t xO
    obtain ⟨h0,hr⟩:=af hr
    have h0:=aY h0
    obtain ⟨t',l0,hr,hX,fe⟩:=eX hr
    split at hr
    ·rename_i YJ hl
     obtain ⟨e',rfl⟩:=cr hl
     cases e'
     obtain ⟨hz,hr⟩:=af hr
     have hz:=beq_eq hz
     obtain ⟨h1,hr⟩:=bz hr
     have h1:0<n:=h1
     obtain ⟨h',k1,k2⟩:=nj hX hr
     refine ⟨_,_,_,k1,.put hd hX k2 (fun g S w a hI hv=>?_) (fun S2 hA=>fc.bm fun g0 w0 a0 Vr Nj=>?_)⟩
     ·have hv:=hv x (by simp [ho,Op.operands,Call.operands])
      rw [hx] at hv
      exact hv.ats
     ·have dX:=(hA _ (bG hX (.head _))).1.trans fe
      have hle:off+n≤l0.length:=by
       have hv:=Nj x (by simp [ho,Op.operands,Call.operands])
       rw [hx,hz,←nW] at hv
       exact tg Vr (by rw [nW];exact h0) dX hv
      have:=B2 (P:=P) (ρ:=ρ) (n:=n) (off:=off*e.size) (z:=e.size) ho (o9 hE he) hk.ti h0 (hk.tz t xO) (fun g w v hI hv=>by
       rw [hx,hz] at hv
       cases hv with
       | tj _ _ _ _ _ _ hn=>omega
       | ts _ _ _ _ b cap s bK hn _ _ _ d nI=>exact ⟨b,s,cap,d,bK,rfl,fun _=>nI (by omega)⟩) h1 dX (by rw [bb,nW,←Nat.add_mul];exact zW _ hle)
      have e2:put (l0.flatMap (aA t)) (off*e.size) (pX n (aA t t.cQ))=(cat (tk off l0) (cat (rep n t.cQ) (dr (aK off n) l0))).flatMap (aA t):=by
       rw [jD,jD,vc,vd,wj,nW]
       unfold put
       rw [ko,bI,nW,←Nat.add_mul];rfl
      rw [e2] at this
      exact this
    ·cases hr
   ·cases hr
  ·cases hr
 ·cases hr
def OL (mx:Bool) (px py:A) (h:H) (K:A→H→Fp→Option β):Option β:=match px,py with
 | .v (.int k m),.v (.int k' n)=>if k=k' then K (.v (.int k (bif mx then imax m n else lW m n))) h .no else none
 | _,_=>none
theorem Ip {Ts:Array TypeId} {x y:Operand} (ho:o.op = .call { callee:=.builtin .max,args:=#[x,y],argTypes:=Ts }) (hr:OL true (ρ x) (ρ y) h K=some r):Out P o ρ h K r:=by
 unfold OL at hr
 split at hr
 ·rename_i k m k' n hx hy
  split at hr
  ·rename_i hk;subst hk
   exact .pure hr (fun S2=>H5 ho hx hy) (by rw [ho];intro c e;cases e)
  ·cases hr
 ·cases hr
theorem Io {Ts:Array TypeId} {x y:Operand} (ho:o.op = .call { callee:=.builtin .min,args:=#[x,y],argTypes:=Ts }) (hr:OL false (ρ x) (ρ y) h K=some r):Out P o ρ h K r:=by
 unfold OL at hr
 split at hr
 ·rename_i k m k' n hx hy
  split at hr
  ·rename_i hk;subst hk
   exact .pure hr (fun S2=>H4 ho hx hy) (by rw [ho];intro c e;cases e)
  ·cases hr
 ·cases hr
def Uw (f:FuncId) (fi ca:List A) (h:H) (K:A→H→Fp→Option β):Option β:=K (.fn f fi ca) h .no
theorem Ir {f:FuncId} {fi ca:Array Operand} (ho:o.op = .makeFunc (.func f) fi ca) (hr:Uw f (fi.toList.map ρ) (ca.toList.map ρ) h K=some r):Out P o ρ h K r:=
 .pure hr (fun S2=>uC ho) (by rw [ho];intro c e;cases e)
end
end
set_option linter.unusedVariables false
set_option linter.unusedSimpArgs false
section
open Go.RowKit
section
variable {P:Program} {E:Env} {o:Oper} {ρ:Operand→A} {S:Hp}
def Ch (es:List (A×A)) (n:Nat) (v:A):List (A×A):=es.modify n fun e=>(e.1,v)
theorem Es (hE:bT P E) {T K T2:Nat} {X:Ref} {x y z:Operand} {e:ct} {es:List (A×A)} {vz:A} {n:Nat} {old:A} (ho:o.op = .mapUpdate T x y z) (hT:P.underlying T=some (.map K T2)) (he:cu E.dP K=some e) (ht:mg E e.d=true) {b:Bool} (hs:jC E K e.d (ρ y) (ρ y)=some b)
  (hx:ρ x = .mp X) (hm:S.ob X.id=some (.cX (.map es))) (ON:∀g v,V g (ρ z) v→V g vz v) (hr:lE (jC E K e.d (ρ y)) es 0=some (some (n,old)))
  (aa7:∀g v q v',es[n]?=some q→V g (ρ y) v→V g q.1 v'→v'=v∧Instr.sameBits 10000 v v=true):fc P o ρ S (S.set X.id (.cX (.map (Ch es n vz)))) .cG:=by
 intro g w a next Q hI hv K'
 have e1:=hx▸hv x (by simp [ho,Op.operands])
 have e2:=hv y (by simp [ho,Op.operands])
 have e3:=hv z (by simp [ho,Op.operands])
 obtain ⟨Dd,s,jO,clock,h1,h2,h3,h4⟩:=e1.uI hI hm
 have hc:=nz hE w false he ht hs e2
 rcases h4.find (w:=w) hE he e2 hr with ⟨hh,_⟩ | ⟨n',p,x',hh,oz,_,hn,hf⟩
 ·cases hh
 cases hh
 obtain ⟨q,hq⟩:∃q,es[n]?=some q:=⟨_,zD hn⟩
 obtain ⟨k1,k2⟩:=aa7 g _ q _ hq e2 (h4.2 n x' q oz hq).1
 have Fs:sF g (jO.modify n fun e=>{ e with key:=a.eval y,val:=a.eval z }) (Ch es n vz):=by
  refine ⟨by simp [Ch,h4.1],fun m c r hy hz=>?_⟩
  unfold Ch at hz
  rw [List.getElem?_modify] at hz
  rw [Array.getElem?_modify] at hy
  by_cases hmn:n=m
  ·subst hmn
   simp only [if_true,oz,hq,Option.map_some,Option.map_eq_map,zI] at hy hz
   subst hy hz
   exact ⟨by rw [←k1];exact (h4.2 n x' q oz hq).1,ON _ _ e3⟩
  ·simp only [if_neg hmn,Option.map_eq_map,Option.map_id'] at hy hz
   exact h4.2 m c r hy hz
 obtain ⟨q1,q2⟩:=hI.uj (clock':=clock) hm h2 h3 Fs
 have AI:(Instr.keyThatStays (((jO[n]?).map (·.key)).getD (a.eval y)) (a.eval y)).run P w = .ok (a.eval y) w:=by
  rw [oz]
  simp only [Option.map_some,Option.getD_some,k1]
  simp [Instr.keyThatStays,k2]
 have eL:(Instr.mapUpdate T (.map (some Dd)) (a.eval y) (a.eval z)).run P w = .ok () { w with heap:=w.heap.setIfInBounds Dd (.map (jO.modify n fun e=>{ e with key:=a.eval y,val:=a.eval z }) clock) }:=by
  simp only [Instr.mapUpdate,Sem.run_bind,run_underlying hT,Result.andThen_ok,MapKept.run_getObj_map h3,hc,hf,AI,MapKept.run_setObj_map _ h3]
 unfold Oper.wp
 simp only [execOp,ho,h1,Sem.run_bind,eL,Result.andThen_ok,Sem.run_pure]
 exact K' _ g _ (.cG _) q1 q2
end
def tP {β:Type} (f:A→Option Bool):List (A×A)→Nat→(Option (Nat×A)→Option β)→Option β
 | [],_,K=>K none
 | (k,v)::r,i,K=>match f k with
  | some b=>br b (K (some (i,v))) (tP f r (i+1) K)
  | none=>none
theorem pB {β:Type} {f:A→Option Bool} {r:β}:∀(es:List (A×A)) (i:Nat) (K:Option (Nat×A)→Option β),tP f es i K=some r→∃x,K x=some r∧lE f es i=some x
 | [],i,K,h=>⟨none,h,rfl⟩
 | (k,v)::es,i,K,h=>by
  unfold tP at h
  split at h
  ·rename_i b hb
   rcases la h with ⟨rfl,h1⟩ | ⟨rfl,h1⟩
   ·exact ⟨_,h1,by unfold lE;rw [hb]⟩
   ·obtain ⟨x,k1,k2⟩:=pB es (i+1) K h1
    exact ⟨x,k1,by unfold lE;rw [hb];exact k2⟩
  ·cases h
def tR:(t:Ty)→t.T→t.T→Bool
 | .int _,x,y=>ak x y
 | .pair a b,x,y=>tR a x.1 y.1 && tR b x.2 y.2
 | _,_,_=>false
def G2 {κ α:Type} (p:κ→Bool):List (κ×α)→Nat→Option (Nat×α)
 | [],_=>none
 | (k,v)::r,i=>bif p k then some (i,v) else G2 p r (i+1)
def M4 {κ α:Type} (l:List (κ×α)) (n:Nat) (v:α):List (κ×α):=l.modify n fun e=>(e.1,v)
def M6 {κ α:Type} (l:List (κ×α)) (n:Nat):List (κ×α):=l.eraseIdx n
def mM (E:Env) (T:Nat) (k:IntKind):Bool:=match cu E.dP T with
 | some ⟨.int k',1,_,_,_,_,_⟩=>if k'=k then true else false
 | _=>false
def b_ (E:Env):List Field→Nat→Ty→Bool
 | [fd],i,.int k=>Nat.beq fd.offset i && mM E fd.type k
 | fd::fs,i,.pair (.int k) t=>Nat.beq fd.offset i && mM E fd.type k && b_ E fs (i+1) t
 | _,_,_=>false
def ER (E:Env) (K:Nat) (e:ct) (ka:Bool) (t:Ty):Bool:=match e.d with
 | .int k=>!ka && (match t with
  | .int k'=>if k'=k then true else false
  | _=>false)
 | .struct fs=>ka && E.eqs.any (Nat.beq K) && b_ E fs.toList 0 t
 | _=>false
theorem qb {E:Env} {T:Nat} {k:IntKind} (h:mM E T k=true):∃e,cu E.dP T=some e∧e.d = .int k∧e.size=1:=by
 unfold mM at h
 split at h
 ·rename_i k' _ _ _ _ _ ht
  split at h
  ·rename_i hk;subst hk;exact ⟨_,ht,rfl,rfl⟩
  ·cases h
 ·cases h
theorem AT {E:Env} {T:Nat} {k:IntKind} {m n:Int} (h:mM E T k=true) (f:Nat):vN E (f+1) T [.v (.int k m)] [.v (.int k n)]=some (ak m n):=by
 obtain ⟨e,h1,h2,_⟩:=qb h
 unfold vN
 rw [h1]
 simp only [h2,if_true]
theorem As {E:Env} (f:Nat):∀(fs:List Field) (i:Nat) (t:Ty),b_ E fs i t=true→∀(p q:List A) (x y:t.T),p.length=i→q.length=i→I_ E (vN E (f+1)) fs (p++aA t x) (q++aA t y)=some (tR t x y)
 | [],_,_,h=>by simp [b_] at h
 | [fd],i,.int k,h=>fun p q x y hp hq=>by
  simp only [b_,zC] at h
  have h1:=beq_eq h.1
  obtain ⟨e,e1,e2,e3⟩:=qb h.2
  unfold I_
  rw [e1]
  simp only [e3,h1]
  rw [←hp,List.drop_left,hp,←hq,List.drop_left]
  have:=AT (m:=x) (n:=y) h.2 f
  simp only [aA,List.take_succ_cons,List.take_zero,this,I_]
  simp [tR,mZ]
 | fd::fs,i,.pair (.int k) t,h=>fun p q x y hp hq=>by
  have h:(Nat.beq fd.offset i && mM E fd.type k && b_ E fs (i+1) t)=true:=by
   cases fs<;>exact h
  simp only [zC] at h
  have h1:=beq_eq h.1.1
  obtain ⟨e,e1,e2,e3⟩:=qb h.1.2
  unfold I_
  rw [e1]
  simp only [e3,h1]
  have ih:=As f fs (i+1) t h.2 (p++[A.v (.int k x.1)]) (q++[A.v (.int k y.1)]) x.2 y.2 (by simp [hp]) (by simp [hq])
  have ex:∀(p:List A) (x:(Ty.pair (.int k) t).T),p++aA (.pair (.int k) t) x=p++[A.v (.int k x.1)]++aA t x.2:=fun p x=>by
   show p++([A.v (.int k x.1)]++aA t x.2)=_
   rw [List.append_assoc]
  rw [ex,ex,ih]
  have hd1:((p++[A.v (.int k x.1)]++aA t x.2).drop i).take 1=[A.v (.int k x.1)]:=by rw [←hp,List.append_assoc,List.drop_left];rfl
  have hd2:((q++[A.v (.int k y.1)]++aA t y.2).drop i).take 1=[A.v (.int k y.1)]:=by rw [←hq,List.append_assoc,List.drop_left];rfl
  rw [hd1,hd2]
  exact congrArg (fun z:Option Bool=>match z,some (tR t x.2 y.2) with
   | some a,some b=>some (mZ a b)
   | _,_=>none) (AT (m:=x.1) (n:=y.1) h.1.2 f)
 | [_],_,.bool,h=>by simp [b_] at h
 | _::_::_,_,.bool,h=>by simp [b_] at h
 | _::_::_,_,.int _,h=>by simp [b_] at h
 | _::_,_,.unit,h=>by simp [b_] at h
 | _::_,_,.pair .bool _,h=>by simp [b_] at h
 | _::_,_,.pair .unit _,h=>by simp [b_] at h
 | _::_,_,.pair (.pair _ _) _,h=>by simp [b_] at h
 | _::_,_,.pair (.arr _ _) _,h=>by simp [b_] at h
 | _::_,_,.pair (.aF _) _,h=>by simp [b_] at h
 | _::_,_,.pair (.ptr _) _,h=>by simp [b_] at h
 | _::_,_,.pair (.cY _) _,h=>by simp [b_] at h
 | _::_,_,.pair (.je _ _) _,h=>by simp [b_] at h
 | _::_,_,.pair (.pM _ _) _,h=>by simp [b_] at h
 | _::_,_,.pair (.mp _) _,h=>by simp [b_] at h
 | _::_,_,.arr _ _,h=>by simp [b_] at h
 | _::_,_,.aF _,h=>by simp [b_] at h
 | _::_,_,.ptr _,h=>by simp [b_] at h
 | _::_,_,.cY _,h=>by simp [b_] at h
 | _::_,_,.je _ _,h=>by simp [b_] at h
 | _::_,_,.pM _ _,h=>by simp [b_] at h
 | _::_,_,.mp _,h=>by simp [b_] at h
theorem uK {E:Env} {K:Nat} {e:ct} {ka:Bool} {t:Ty} (he:cu E.dP K=some e) (h:ER E K e ka t=true) (x y:t.T):jC E K e.d (bO ka t x) (bO ka t y)=some (tR t x y):=by
 unfold ER at h
 split at h
 ·rename_i k hd
  cases ka with
  | true=>simp at h
  | false=>
   simp only [Bool.not_false,Bool.true_and] at h
   split at h
   ·split at h
    ·rename_i k' hk
     subst hk
     unfold jC bO
     simp only [hd,cond_false,aA,if_true]
     rfl
    ·cases h
   ·cases h
 ·rename_i fs hd
  simp only [zC] at h
  obtain ⟨⟨rfl,hq⟩,hs⟩:=h
  have h1:=As 0 fs.toList 0 t hs [] [] x y rfl rfl
  simp only [List.nil_append] at h1
  unfold jC bO
  simp only [hd,cond_true,iO,Bool.and_self,A.cells]
  show vN E 2 K (aA t x) (aA t y)=some (tR t x y)
  unfold vN
  rw [he]
  simp only [hd,hq,cond_true]
  exact h1
 ·cases h
theorem kP {E:Env} {K:Nat} {e:ct} {ka va:Bool} {t tv:Ty} (he:cu E.dP K=some e) (h:ER E K e ka t=true) (x:t.T):∀(es:List (t.T×tv.T)) (i:Nat),
  lE (jC E K e.d (bO ka t x)) (es.map fun e=>(bO ka t e.1,bO va tv e.2)) i=some ((G2 (tR t x) es i).map fun p=>(p.1,bO va tv p.2))
 | [],i=>rfl
 | (k,v)::es,i=>by
  rw [List.map_cons]
  unfold lE G2
  simp only [uK he h x k]
  cases tR t x k with
  | true=>rfl
  | false=>exact kP he h x es (i+1)
theorem uS {a b:Int} (h:ak a b=true):a=b:=by unfold ak at h;exact of_decide_eq_true h
theorem tI {E:Env}:∀(fs:List Field) (i:Nat) (t:Ty),b_ E fs i t=true→∀x y:t.T,tR t x y=true→x=y
 | [],_,_,h=>by simp [b_] at h
 | [_],_,.int _,_=>fun _ _ e=>uS e
 | fd::fs,i,.pair (.int k) t,h=>fun x y e=>by
  have h:(Nat.beq fd.offset i && mM E fd.type k && b_ E fs (i+1) t)=true:=by
   cases fs<;>exact h
  simp only [zC] at h
  have e:(ak x.1 y.1 && tR t x.2 y.2)=true:=e
  simp only [zC] at e
  exact Prod.ext (uS e.1) (tI fs (i+1) t h.2 _ _ e.2)
 | [_],_,.bool,h=>by simp [b_] at h
 | _::_::_,_,.bool,h=>by simp [b_] at h
 | _::_::_,_,.int _,h=>by simp [b_] at h
 | _::_,_,.unit,h=>by simp [b_] at h
 | _::_,_,.pair .bool _,h=>by simp [b_] at h
 | _::_,_,.pair .unit _,h=>by simp [b_] at h
 | _::_,_,.pair (.pair _ _) _,h=>by simp [b_] at h
 | _::_,_,.pair (.arr _ _) _,h=>by simp [b_] at h
 | _::_,_,.pair (.aF _) _,h=>by simp [b_] at h
 | _::_,_,.pair (.ptr _) _,h=>by simp [b_] at h
 | _::_,_,.pair (.cY _) _,h=>by simp [b_] at h
 | _::_,_,.pair (.je _ _) _,h=>by simp [b_] at h
 | _::_,_,.pair (.pM _ _) _,h=>by simp [b_] at h
 | _::_,_,.pair (.mp _) _,h=>by simp [b_] at h
 | _::_,_,.arr _ _,h=>by simp [b_] at h
 | _::_,_,.aF _,h=>by simp [b_] at h
 | _::_,_,.ptr _,h=>by simp [b_] at h
 | _::_,_,.cY _,h=>by simp [b_] at h
 | _::_,_,.je _ _,h=>by simp [b_] at h
 | _::_,_,.pM _ _,h=>by simp [b_] at h
 | _::_,_,.mp _,h=>by simp [b_] at h
theorem yf (n:Nat) (k:IntKind) (m:Int):Instr.sameBits n (.int k m) (.int k m)=true:=by cases n<;>simp [Instr.sameBits]
theorem tJ {E:Env}:∀(fs:List Field) (i:Nat) (t:Ty),b_ E fs i t=true→∀(x:t.T) (g:G) (vs:List Value),Vs g (aA t x) vs→(∀g' Hr,Vs g' (aA t x) Hr→Hr=vs)∧∀n,((vs.zip vs).all fun (a,b)=>Instr.sameBits n a b)=true
 | [],_,_,h=>by simp [b_] at h
 | [_],_,.int k,_=>fun x g vs hv=>by
  obtain ⟨v,rfl,h1,_⟩:=Vs.nE (show Vs g [.v (.int k x)] vs from hv)
  cases h1
  refine ⟨fun g' Hr xN=>?_,fun n=>?_⟩
  ·obtain ⟨v',rfl,ND,_⟩:=Vs.nE (show Vs g' [.v (.int k x)] Hr from xN)
   cases ND;rfl
  ·exact (Bool.and_true _).trans (yf n k x)
 | fd::fs,i,.pair (.int k) t,h=>fun x g vs hv=>by
  have h:(Nat.beq fd.offset i && mM E fd.type k && b_ E fs (i+1) t)=true:=by
   cases fs<;>exact h
  simp only [zC] at h
  obtain ⟨v1,v2⟩:=Vs.split (show Vs g (aA (.int k) x.1++aA t x.2) vs from hv)
  obtain ⟨r1,r2⟩:=tJ fs (i+1) t h.2 x.2 g _ v2
  obtain ⟨v,e1,h1,_⟩:=Vs.nE (show Vs g [.v (.int k x.1)] _ from v1)
  cases h1
  have AH:vs=Value.int k x.1::vs.drop (aA (.int k) x.1).length:=by
   have:=zP (aA (.int k) x.1).length vs
   rw [e1] at this
   exact this.symm
  refine ⟨fun g' Hr xN=>?_,fun n=>?_⟩
  ·obtain ⟨v1',v2'⟩:=Vs.split (show Vs g' (aA (.int k) x.1++aA t x.2) Hr from xN)
   obtain ⟨v',e1',ND,_⟩:=Vs.nE (show Vs g' [.v (.int k x.1)] _ from v1')
   cases ND
   have aaC:Hr=Value.int k x.1::Hr.drop (aA (.int k) x.1).length:=by
    have:=zP (aA (.int k) x.1).length Hr
    rw [e1'] at this
    exact this.symm
   rw [aaC,AH,r1 _ _ v2']
  ·rw [AH,List.zip_cons_cons,List.all_cons,r2 n]
   exact (Bool.and_true _).trans (yf n k x.1)
 | [_],_,.bool,h=>by simp [b_] at h
 | _::_::_,_,.bool,h=>by simp [b_] at h
 | _::_::_,_,.int _,h=>by simp [b_] at h
 | _::_,_,.unit,h=>by simp [b_] at h
 | _::_,_,.pair .bool _,h=>by simp [b_] at h
 | _::_,_,.pair .unit _,h=>by simp [b_] at h
 | _::_,_,.pair (.pair _ _) _,h=>by simp [b_] at h
 | _::_,_,.pair (.arr _ _) _,h=>by simp [b_] at h
 | _::_,_,.pair (.aF _) _,h=>by simp [b_] at h
 | _::_,_,.pair (.ptr _) _,h=>by simp [b_] at h
 | _::_,_,.pair (.cY _) _,h=>by simp [b_] at h
 | _::_,_,.pair (.je _ _) _,h=>by simp [b_] at h
 | _::_,_,.pair (.pM _ _) _,h=>by simp [b_] at h
 | _::_,_,.pair (.mp _) _,h=>by simp [b_] at h
 | _::_,_,.arr _ _,h=>by simp [b_] at h
 | _::_,_,.aF _,h=>by simp [b_] at h
 | _::_,_,.ptr _,h=>by simp [b_] at h
 | _::_,_,.cY _,h=>by simp [b_] at h
 | _::_,_,.je _ _,h=>by simp [b_] at h
 | _::_,_,.pM _ _,h=>by simp [b_] at h
 | _::_,_,.mp _,h=>by simp [b_] at h
theorem EP {E:Env} {K:Nat} {e:ct} {ka:Bool} {t:Ty} (h:ER E K e ka t=true) {x y:t.T} (hxy:tR t x y=true) {g:G} {v v':Value} (h1:V g (bO ka t x) v) (h2:V g (bO ka t y) v'):v'=v∧Instr.sameBits 10000 v v=true:=by
 unfold ER at h
 split at h
 ·rename_i k hd
  cases ka with
  | true=>simp at h
  | false=>
   simp only [Bool.not_false,Bool.true_and] at h
   split at h
   ·split at h
    ·have:=uS hxy
     subst this
     cases h1;cases h2
     exact ⟨rfl,yf _ _ _⟩
    ·cases h
   ·cases h
 ·rename_i fs hd
  simp only [zC] at h
  obtain ⟨⟨rfl,hq⟩,hs⟩:=h
  have:=tI _ _ _ hs _ _ hxy
  subst this
  have c1:=h1.cells rfl
  have c2:=h2.cells rfl
  obtain ⟨us,rfl⟩:=h1.xz rfl
  obtain ⟨us',rfl⟩:=h2.xz rfl
  obtain ⟨r1,r2⟩:=tJ _ _ _ hs x g _ c1
  have e:=r1 _ _ c2
  have e:us'=us:=Array.ext' e
  subst e
  refine ⟨rfl,?_⟩
  have:=r2 9999
  simp only [Value.cells] at this
  rw [show (10000:Nat)=9999+1 from rfl,Instr.sameBits]
  simp only [this,Bool.and_true,beq_self_eq_true]
 ·cases h
end
set_option linter.unusedVariables false
set_option linter.unusedSimpArgs false
section
variable {α β σ ρ:Type}
theorem zk {x:Option α} {f:α→Option β} {a:α} (h:x=some a):bd x f=f a:=by rw [h];rfl
theorem LC {x:Option α} {n:Option β} {s:α→Option β} {a:α} (h:x=some a):opt x n s=s a:=by rw [h];rfl
theorem LB {x:Option α} {n:Option β} {s:α→Option β} (h:x=none):opt x n s=n:=by rw [h];rfl
theorem adz {b:Bool} {x y:Option α} (h:b=true):br b x y=x:=by rw [h];rfl
theorem adA {b:Bool} {x y:Option α} (h:b=false):br b x y=y:=by rw [h];rfl
theorem xc {p:Prop} {inst:Decidable p} {x:Option α} (h:p):@gd α p inst x=x:=if_pos h
theorem dw {a b:Int} {x y:Option α} (h:a<b):br (aQ a b) x y=x:=by unfold aQ;rw [decide_eq_true h];rfl
theorem cL {a b:Int} {x y:Option α} (h:¬a<b):br (aQ a b) x y=y:=by unfold aQ;rw [decide_eq_false h];rfl
theorem dM {a b:Int} {x y:Option α} (h:a≤b):br (cP a b) x y=x:=by unfold cP;rw [decide_eq_true h];rfl
theorem dN {a b:Int} {x y:Option α} (h:¬a≤b):br (cP a b) x y=y:=by unfold cP;rw [decide_eq_false h];rfl
theorem bl {a b:Int} {x y:Option α} (h:a=b):br (ak a b) x y=x:=by unfold ak;rw [decide_eq_true h];rfl
theorem bh {a b:Int} {x y:Option α} (h:¬a=b):br (ak a b) x y=y:=by unfold ak;rw [decide_eq_false h];rfl
theorem gV {a:Int} {x:Option α}:gd (bn a) x=br (cP 0 a) x none:=by unfold cP;by_cases h:0≤a<;>simp [gd,bn,h,br]
theorem gS {a b:Nat} {x:Option α}:gd (bu a b) x=br (aQ a b) x none:=by unfold aQ;by_cases h:a<b<;>simp [gd,bu,h,br]
theorem gT {a b:Nat} {x:Option α}:gd (bp a b) x=br (cP a b) x none:=by unfold cP;by_cases h:a≤b<;>simp [gd,bp,h,br]
theorem gU {a b:Nat} {x:Option α}:gd (neq a b) x=br (ak a b) x none:=by
 unfold ak
 by_cases h:a=b
 ·simp [gd,neq,h,br]
 ·have h2:¬(a:Int)=b:=by omega
  simp [gd,neq,h,h2,br]
theorem gW {a b:Int} {x:Option α}:gd (IE a b) x=br (ak a b) x none:=by unfold ak;by_cases h:a=b<;>simp [gd,IE,h,br]
theorem gD {a:Int} {x:Option α}:gd (IB a) x=br (ak a 0) none x:=by unfold ak;by_cases h:a=0<;>simp [gd,IB,h,br]
theorem dL {b:Bool} {x y:Option α}:br (az b) x y=br b y x:=by cases b<;>rfl
theorem Oi {a b:Bool} {x y:Option α}:br (mZ a b) x y=br a (br b x y) y:=by cases a<;>cases b<;>rfl
theorem wrap_i64 (n:Int):IntKind.i64.wrap n=(n+9223372036854775808)%18446744073709551616-9223372036854775808:=by
 simp [IntKind.wrap,IntKind.bits,IntKind.signed]
 split<;>omega
theorem wrap_u64 (n:Int):IntKind.u64.wrap n=n%18446744073709551616:=by simp [IntKind.wrap,IntKind.bits,IntKind.signed]
theorem aS {a b:Int} (h : -9223372036854775808≤a+b∧a+b≤9223372036854775807):ae .i64 a b=a+b:=by unfold ae;rw [wrap_i64];omega
theorem bL {a b:Int} (h : -9223372036854775808≤a-b∧a-b≤9223372036854775807):aE .i64 a b=a-b:=by unfold aE;rw [wrap_i64];omega
theorem cK {a b:Int} (h : -9223372036854775808≤a*b∧a*b≤9223372036854775807):cm .i64 a b=a*b:=by unfold cm;rw [wrap_i64];omega
theorem fP {a:Int} (h : -9223372036854775808≤a∧a≤9223372036854775807):cS .i64 a=a:=by unfold cS;rw [wrap_i64];omega
theorem gJ {a:Int} (h:0≤a∧a≤18446744073709551615):cS .u64 a=a:=by unfold cS;rw [wrap_u64];omega
theorem cJ {a b:Int} (h:0≤a):cq a b=a%b:=Int.tmod_eq_emod_of_nonneg h
theorem Mw {a b:Int} (h:0≤a):a.tdiv b=a / b:=Int.tdiv_eq_ediv_of_nonneg h
theorem dy {a b:Int} (h:0≤a∧a≤9223372036854775807∧0<b):mv .i64 a b=a / b:=by
 unfold mv
 rw [Mw h.1,wrap_i64]
 have h1:0≤a / b:=Int.ediv_nonneg h.1 (by omega)
 have h2:a / b≤a:=Int.ediv_le_self b h.1
 omega
theorem jN (n:Nat):nN (n:Int)=n:=zE n
theorem eP (n:Nat):zN n=(n:Int):=rfl
theorem dc (a:Int):nN a=a.toNat:=rfl
theorem bx (a:Int):bn a=(0≤a):=rfl
theorem bP (a b:Nat):bu a b=(a<b):=rfl
theorem cR (a b:Nat):bp a b=(a≤b):=rfl
theorem fV {d:α} {l:List α} {i:Nat} (h:i<l.length):nth d l i=l[i]:=by unfold nth;rw [zA,zD h];rfl
theorem bw {d x:α} {l:List α} {i:Nat} (h:l[i]?=some x):nth d l i=x:=by unfold nth;rw [zA,h];rfl
theorem Ic {d x:α} {l:List α} {i j:Nat}:nth d (upd l i x) j=if i=j∧j<l.length then x else nth d l j:=by
 unfold nth upd
 rw [zA,zA,List.getElem?_set]
 by_cases h:i=j
 ·subst h
  by_cases h1:i<l.length
  ·simp [h1]
  ·simp [h1]
 ·simp [h]
theorem DQ {l:List (Option (List α))} {j:Nat} {r:List α}:aT l j=some r↔l[j]?=some (some r):=by
 unfold aT
 rw [zA]
 cases h:l[j]? with
 | none=>simp
 | some x=>simp
theorem og {l:List (Option (List α))} {j:Nat} {r:List α} (h:aT l j=some r):j<l.length:=(zB.1 (DQ.1 h)).1
theorem z6 {l:List (Option (List α))} {i j:Nat} {x:Option (List α)} (h:i<l.length):aT (upd l i x) j=if i=j then x else aT l j:=by
 unfold aT upd
 rw [zA,zA,List.getElem?_set]
 by_cases e:i=j
 ·subst e;simp [h]
 ·simp [e]
theorem bV {l:List (Option (List α))} {j:Nat} {r:List α} {x:Option (List α)} (h:aT l j=some r):aT (upd l j x) j=x:=by rw [z6 (og h),if_pos rfl]
theorem wJ {d x:α} {l:List α} {i:Nat} (h:i<l.length):nth d (upd l i x) i=x:=by rw [Ic,if_pos ⟨rfl,h⟩]
theorem z7 {l:List (Option (List α))} {j:Nat} {x:Option (List α)}:aT (cat l [x]) j=if j=l.length then x else aT l j:=by
 unfold aT cat
 rw [zA,zA]
 by_cases e:j=l.length
 ·subst e;simp
 ·rw [if_neg e]
  by_cases h1:j<l.length
  ·rw [zK h1]
  ·rw [zb (by simp;omega),zb (by omega)]
theorem Ie {d x:α} {l:List α} {j:Nat}:nth d (cat l [x]) j=if j=l.length then x else nth d l j:=by
 unfold nth cat
 rw [zA,zA]
 by_cases e:j=l.length
 ·subst e;simp
 ·rw [if_neg e]
  by_cases h1:j<l.length
  ·rw [zK h1]
  ·rw [zb (by simp;omega),zb (by omega)]
theorem eJ {l:List (Option (List α))} {x:Option (List α)}:aT (cat l [x]) l.length=x:=by rw [z7,if_pos rfl]
theorem wK {d x:α} {l:List α}:nth d (cat l [x]) l.length=x:=by rw [Ie,if_pos rfl]
theorem oe {n:Nat} {l:List α}:(tk n l).length=min n l.length:=List.length_take
theorem oD {n:Nat} {l:List α}:(dr n l).length=l.length-n:=List.length_drop
theorem lN {n:Nat} {x:α}:(rep n x).length=n:=List.length_replicate
theorem jx {d:α} {l:List α} {n:Nat} {x:α}:(upd l n x).length=l.length:=zM
theorem yB {l k:List α}:(cat l k).length=l.length+k.length:=zY
theorem aI (l:List α):len l=l.length:=rfl
theorem Ga {S R B:List α} {i m m' k:Nat} (hi:i<S.length) (hk:k=S.length-(i+1)) (hm:m=i+k) (Nr:m'=i+k):tk m (cat (tk m' (cat (tk i S) (cat (tk k (dr (i+1) S)) R))) B)=S.eraseIdx i:=by
 have e1:tk k (dr (i+1) S)=S.drop (i+1):=za (by simp [dr];omega)
 rw [e1]
 unfold tk cat
 have hl:(S.take i++S.drop (i+1)).length=i+k:=by simp;omega
 have h2:List.take m' (List.take i S++(List.drop (i+1) S++R))=List.take i S++List.drop (i+1) S:=by
  rw [←List.append_assoc];exact List.take_left' (hl.trans Nr.symm)
 rw [h2]
 exact (List.take_left' (hl.trans hm.symm)).trans (List.eraseIdx_eq_take_drop_succ _ _).symm
def De (f:(σ→Option α)→σ→Option α) (s:σ) (x:Option α) (k:Nat):Prop:=∀n,k<n→iter f n s=x
theorem De.stop {f:(σ→Option α)→σ→Option α} {s:σ} {x:Option α} (k:Nat) (h:∀g,f g s=x):De f s x k:=fun n hn=>by
 cases n with
 | zero=>omega
 | succ n=>exact h _
theorem De.step {f:(σ→Option α)→σ→Option α} {s s':σ} {x:Option α} {k:Nat} (h:De f s' x k) (e:∀g:σ→Option α,f g s=g s'):De f s x (k+1):=fun n hn=>by
 cases n with
 | zero=>omega
 | succ n=>exact (e _).trans (h n (by omega))
theorem De.loop {f:(σ→Option α)→σ→Option α} {s:σ} {x:Option α} {k:Nat} (h:De f s x k) (hk:k<kQ):Go.Bm.loop f s=x:=by rw [o7];exact h kQ hk
theorem LN {f:(σ→Option α)→σ→Option α} {s:σ}:Go.Bm.loop f s=f (fun s=>f (fun s=>f (iter f 9223372036854775805) s) s) s:=by rw [o7];rfl
theorem lR {f:(σ→Option α)→σ→Option α} (mk:Nat→σ) (res:Nat→Option α) (N:Nat) (hN:N<kQ) (he:∀g,f g (mk N)=res N) (h:∀k,k<N→(∀g,f g (mk k)=res k)∨(res k=res (k+1)∧∀g,f g (mk k)=g (mk (k+1)))):Go.Bm.loop f (mk 0)=res 0:=by
  have key:∀m k:Nat,k+m=N→De f (mk k) (res k) m:=by
    intro m
    induction m with
    | zero=>
              intro k hk;obtain rfl:k=N:=by omega
              exact .stop 0 he
    | succ m ih=>
      intro k hk
      rcases h k (by omega) with h1 | ⟨h1,h2⟩
      · exact .stop _ h1
      · rw [h1];exact .step (ih (k+1) (by omega)) (fun g=>h2 g)
  exact (key N 0 (by omega)).loop hN
end
set_option linter.unusedVariables false
set_option linter.unusedSimpArgs false
theorem bits_mask (a:Int) (j:Nat) (hj:j<63):bits .and .i64 a (2^j-1)=a%2^j:=by
 have h1:(BitVec.ofInt 64 (2^j-1)).toNat=2^j-1:=by
  rw [BitVec.toNat_ofInt]
  have h2:(2:Int)^j<2^64:=by
   have:(2:Nat)^j<2^64:=Nat.pow_lt_pow_right (by omega) (by omega)
   exact_mod_cast this
  have h3:(0:Int)<2^j:=by
   have:0<(2:Nat)^j:=Nat.pow_pos (by omega)
   exact_mod_cast this
  rw [Int.emod_eq_of_lt (by omega) (by simpa using (by omega:(2:Int)^j-1<2^64))]
  have:((2:Int)^j-1)=(((2:Nat)^j-1:Nat):Int):=by
   have:0<(2:Nat)^j:=Nat.pow_pos (by omega)
   rw [Int.natCast_sub (by omega)];simp
  rw [this];simp
 have h4:((BitVec.ofInt 64 a).toNat &&& (2^j-1))=(BitVec.ofInt 64 a).toNat%2^j:=Nat.and_two_pow_sub_one_eq_mod _ _
 have h5:(((BitVec.ofInt 64 a).toNat%2^j:Nat):Int)=a%2^j:=by
  rw [BitVec.toNat_ofInt]
  have hd:(2:Int)^j ∣ 2^64:=⟨2^(64-j),by rw [←Int.pow_add];congr 1;omega⟩
  rw [Int.natCast_emod,Int.toNat_of_nonneg (Int.emod_nonneg _ (by decide))]
  have:=Int.emod_emod_of_dvd a hd
  simpa using this
 have h6:0≤a%2^j:=Int.emod_nonneg _ (by
  have:0<(2:Nat)^j:=Nat.pow_pos (by omega)
  have:(0:Int)<2^j:=by exact_mod_cast this
  omega)
 have h7:a%2^j<9223372036854775808:=by
  have hp:(0:Int)<2^j:=by
   have:0<(2:Nat)^j:=Nat.pow_pos (by omega)
   exact_mod_cast this
  have h8:=Int.emod_lt_of_pos a hp
  have h9:(2:Int)^j≤2^63:=by
   have:(2:Nat)^j≤2^63:=Nat.pow_le_pow_right (by omega) (by omega)
   exact_mod_cast this
  omega
 have h10:(BitVec.ofInt 64 a &&& BitVec.ofInt 64 (2^j-1)).toNat=(BitVec.ofInt 64 a).toNat%2^j:=by rw [BitVec.toNat_and,h1,h4]
 show IntKind.i64.wrap ((BitVec.ofInt 64 a &&& BitVec.ofInt 64 (2^j-1)).toNat:Int)=_
 rw [h10,h5]
 exact (by rw [wrap_i64];omega)
theorem tF {n:Nat} {a:Int} (h0:0≤a) (h1:a<2^n):(BitVec.ofInt n a).toNat=a.toNat:=by
 rw [BitVec.toNat_ofInt,Int.emod_eq_of_lt h0 (by exact_mod_cast h1)]
theorem xv {a b:Int} (ha:0≤a∧a<9223372036854775808) (hb:0≤b∧b<9223372036854775808):bits .or .i64 a b=((a.toNat ||| b.toNat:Nat):Int):=by
 show IntKind.i64.wrap ((BitVec.ofInt 64 a ||| BitVec.ofInt 64 b).toNat:Int)=_
 rw [BitVec.toNat_or,tF ha.1 (by omega),tF hb.1 (by omega)]
 have:a.toNat ||| b.toNat<2^63:=Nat.or_lt_two_pow (by omega) (by omega)
 exact (by rw [wrap_i64];omega)
theorem kR {a m:Int} (j:Nat) (hj:j<63) (hm:m=2^j-1):bits .and .i64 a m=a%2^j:=by rw [hm,bits_mask a j hj]
theorem Ah {a b:Int} (ha:0≤a∧a<9223372036854775808) (hb:0≤b∧b<9223372036854775808):cq (bits .or .i64 a b) 8=0↔a%8=0∧b%8=0:=by
 rw [xv ha hb,cJ (by omega)]
 obtain ⟨x,rfl⟩:=Int.eq_ofNat_of_zero_le ha.1
 obtain ⟨y,rfl⟩:=Int.eq_ofNat_of_zero_le hb.1
 have h:(x ||| y)%8=(x%8) ||| (y%8):=by
  have:=Nat.or_mod_two_pow (a:=x) (b:=y) (n:=3)
  simpa using this
 have h2:(x ||| y)%8=0↔x%8=0∧y%8=0:=by rw [h];exact Nat.or_eq_zero_iff
 simp only [zE]
 omega
theorem DL : ∀ k : Fin 64, 3 ≤ k.val → (7#64)[k.val]'k.isLt = false := by decide
theorem Ju {a:Int} (ha:0≤a∧a<9223372036854775808):bits .andNot .i64 a 7=a-a%8:=by
 obtain ⟨x,rfl⟩:=Int.eq_ofNat_of_zero_le ha.1
 have h1:(BitVec.ofInt 64 (x:Int) &&& ~~~ BitVec.ofInt 64 7).toNat=x-x%8:=by
  have hx:x<2^64:=by omega
  have e:BitVec.ofInt 64 (x:Int) &&& ~~~ BitVec.ofInt 64 7=(BitVec.ofNat 64 x >>> 3) <<< 3:=by
   rw [BitVec.ofInt_natCast]
   ext i hi
   simp only [BitVec.getElem_and,BitVec.getElem_not,BitVec.getElem_shiftLeft]
   by_cases h3:i<3
   ·have:i=0∨i=1∨i=2:=by omega
    rcases this with rfl | rfl | rfl<;>simp<;>decide
   ·have h7:(BitVec.ofInt 64 7)[i]=false:=by
     have:BitVec.ofInt 64 7=7#64:=rfl
     rw [this]
     exact DL ⟨i,hi⟩ (by simpa using h3)
    rw [h7]
    simp [h3]
    congr 1
    omega
  rw [e]
  simp only [BitVec.toNat_shiftLeft,BitVec.toNat_ushiftRight,BitVec.toNat_ofNat,Nat.mod_eq_of_lt hx,Nat.shiftRight_eq_div_pow,Nat.shiftLeft_eq]
  omega
 show IntKind.i64.wrap ((BitVec.ofInt 64 (x:Int) &&& ~~~ BitVec.ofInt 64 7).toNat:Int)=_
 rw [h1,wrap_i64];omega
end Go.Bm
set_option linter.unusedVariables false
set_option linter.unusedSimpArgs false
namespace Go.n6
open Go.Bm
abbrev vH:=Int×Int×Int×Int
abbrev Xt:=Int×Int
abbrev qq:=Int×Bool
abbrev oI:=Int×Int×Int
abbrev Hnd:=Int×Int×Int
abbrev mC:=Int×Int×Int×Int
abbrev q8:=Int×Int×Int×Int×Int×Int×Int
def within (a lo hi:Int):Bool:=decide (lo≤a) && decide (a≤hi)
theorem kT {a lo hi:Int}:within a lo hi=true↔lo≤a∧a≤hi:=by simp [within]
def eI (p:mC):Bool:=within p.1 1 8 && (within p.2.1 1 4 && (within p.2.2.1 0 2048 && (within p.2.2.2 0 8192 && (decide (p.2.2.1%8=0) && decide (p.2.2.2%8=0)))))
theorem ev {p:mC}:eI p=true↔(1≤p.1∧p.1≤8)∧(1≤p.2.1∧p.2.1≤4)∧(0≤p.2.2.1∧p.2.2.1≤2048)∧(0≤p.2.2.2∧p.2.2.2≤8192)∧p.2.2.1%8=0∧p.2.2.2%8=0:=by
 simp [eI,kT]
def JG (n:Int):Int:=n+7-(n+7)%8
def fN (c:vH):Bool:=within c.2.2.2 0 16777215 && (if c.1=0∨c.1=1 then decide (c.2.1=0) && decide (c.2.2.1 = -1) else if c.1=2 then within c.2.1 1 7 && within c.2.2.1 (-1) 7 else if c.1=3 then decide (c.2.1=0) && within c.2.2.1 (-1) 7 else false)
def zg:vH:=(0,0,0,0)
def su (c:vH) (fr:Int):vH×Int:=
 if fN c=false∨within fr 0 7=false then (zg,1)
 else if c.1=0 then (zg,11)
 else if c.1=3 then (zg,10)
 else if c.1=1 then ((2,c.2.1+1,fr,c.2.2.2),0)
 else if c.2.2.1≠fr then (zg,15)
 else if c.2.1=7 then (zg,16)
 else ((c.1,c.2.1+1,c.2.2.1,c.2.2.2),0)
def mi (c:vH) (s:Int):Int:=if fN c=false then 1 else if c.1≠s then 11 else 0
def ss (c:vH):vH×Int:=if mi c 2≠0 then (zg,mi c 2) else if c.2.1=1 then ((3,0,c.2.2.1,c.2.2.2),0) else ((c.1,c.2.1-1,c.2.2.1,c.2.2.2),0)
def tG (e:Int):Int:=(e+1)%16777216
def vk (c:vH):vH×Int:=if mi c 3≠0 then (zg,mi c 3) else ((1,0,-1,tG c.2.2.2),0)
def Om (l:List qq):Int:=match l.getLast? with
 | some e=>e.1
 | none=>0
def lF:List qq→Int→Option Nat
 | [],_=>none
 | e::l,s=>if e=(s,true) then some 0 else (lF l s).map (· + 1)
def reach (l:List qq) (s:Int):Bool:=decide (s=0) || (lF l s).isSome
def parent (l:List qq) (s:Int):Int:=match lF l s with
 | some i=>Om (l.take i)
 | none=>-1
def vB (l:List qq) (s:Int):Nat→Int→Bool
 | 0,_=>false
 | n+1,b=>if b=s then true else vB l s n (parent l b)
def Mj (l:List qq) (s b:Int):Bool:=decide (s=0) || vB l s 9 b
def nv (km bytes:Int):Int×Int:=if within km 0 6=false∨within bytes 0 512=false then (0,1) else (2+km+(bytes+7) / 8,0)
end Go.n6
set_option linter.unusedVariables false
set_option linter.unusedSimpArgs false
namespace Go.Bm
section
variable {α β σ ρ:Type}
def Ok (x:Option α) (P:α→Prop):Prop:=∃a,x=some a∧P a
theorem Ok.some {a:α} {P:α→Prop} (h:P a):Ok (some a) P:=⟨a,rfl,h⟩
theorem Ok.mono {x:Option α} {P Q:α→Prop} (h:Ok x P) (k:∀a,P a→Q a):Ok x Q:=let ⟨a,e,h⟩:=h;⟨a,e,k a h⟩
theorem Ok.bd {x:Option α} {f:α→Option β} {Q:α→Prop} {P:β→Prop} (h:Ok x Q) (k:∀a,Q a→Ok (f a) P):Ok (Go.Bm.bd x f) P:=by
 obtain ⟨a,rfl,h⟩:=h
 exact k a h
theorem Ok.eT {x:Option α} {f:α→Option β} {a:α} {P:β→Prop} (h:x=Option.some a) (k:Ok (f a) P):Ok (Go.Bm.bd x f) P:=by rw [zk h];exact k
theorem Ok.br {c:Bool} {x y:Option α} {P:α→Prop} (h1:c=true→Ok x P) (h2:c=false→Ok y P):Ok (Go.Bm.br c x y) P:=by
 cases c with
 | true=>exact h1 rfl
 | false=>exact h2 rfl
theorem Ok.gd {p:Prop} {inst:Decidable p} {x:Option α} {P:α→Prop} (h:p) (k:Ok x P):Ok (@Go.Bm.gd α p inst x) P:=by rw [xc h];exact k
theorem Ok.d_ {o:Option α} {a:α} {n:Option β} {s:α→Option β} {P:β→Prop} (h:o=Option.some a) (k:Ok (s a) P):Ok (opt o n s) P:=by rw [LC h];exact k
theorem Ok.yp {o:Option α} {n:Option β} {s:α→Option β} {P:β→Prop} (h:o=none) (k:Ok n P):Ok (opt o n s) P:=by rw [LB h];exact k
theorem Ok.opt {o:Option α} {n:Option β} {s:α→Option β} {P:β→Prop} (h:o=none→Ok n P) (k:∀a,o=Option.some a→Ok (s a) P):Ok (Go.Bm.opt o n s) P:=by
 cases o with
 | none=>exact h rfl
 | some a=>exact k a rfl
theorem Ok.jn {f:(σ→Option ρ)→Option ρ} {K:σ→Option ρ} {P:ρ→Prop} (h:Ok (f K) P):Ok (Go.Bm.jn f K) P:=by rw [gQ];exact h
theorem Ok.oG {f:(σ→Option ρ)→Option ρ} {K:σ→Option ρ} {P:ρ→Prop} (Q:σ→Prop) (hK:∀s,Q s→Ok (K s) P) (h:∀k,(∀s,Q s→Ok (k s) P)→Ok (f k) P):Ok (Go.Bm.jn f K) P:=by rw [gQ];exact h K hK
theorem Ok.loop {f:(σ→Option α)→σ→Option α} {P:α→Prop} (I:Nat→σ→Prop) (h:∀m s g,I m s→(∀m' s',m' < m→I m' s'→Ok (g s') P)→Ok (f g s) P) {N:Nat} {s0:σ} (hN:N<kQ) (h0:I N s0):Ok (Go.Bm.loop f s0) P:=by
 have key:∀m n s,m<n→I m s→Ok (iter f n s) P:=by
  intro m
  induction m using Nat.strongRecOn with
  | _ m ih=>
   intro n s hn hs
   cases n with
   | zero=>omega
   | succ n=>exact h m s (iter f n) hs (fun m' s' hm Cq=>ih m' hm n s' (by omega) Cq)
 rw [o7]
 exact key N kQ s0 hN h0
theorem df {a b:Int}:aQ a b=true↔a<b:=decide_eq_true_iff
theorem Ar {a b:Int}:cP a b=true↔a≤b:=decide_eq_true_iff
theorem cj {a b:Int}:ak a b=true↔a=b:=decide_eq_true_iff
theorem iM {a b:Int}:aQ a b=false↔¬a<b:=decide_eq_false_iff_not
theorem rS {a b:Int}:cP a b=false↔¬a≤b:=decide_eq_false_iff_not
theorem b0 {a b:Int}:ak a b=false↔¬a=b:=decide_eq_false_iff_not
theorem qA {a:Bool}:az a=true↔a=false:=by cases a<;>simp [az]
theorem ia {a:Bool}:az a=false↔a=true:=by cases a<;>simp [az]
end
set_option linter.unusedVariables false
set_option linter.unusedSimpArgs false
section
open Go.RowKit
section
variable {P:Program} {E:Env} {o:Oper} {ρ:Operand→A} {h:H} {β:Type} {K:A→H→Fp→Option β} {r:β}
def yF:A→Bool
 | .agg _=>true
 | _=>false
theorem V.sc1 {g:G} {p:A} {v:Value} {cs:List A} (hv:V g p v) (ha:yF p=false) (hc:p.cells=some cs):v.oneCell'=true:=by
 cases hv with
 | v x=>
  unfold A.cells at hc
  cases hx:v.oneCell' with
  | true=>rfl
  | false=>simp only [hx,cond_false] at hc;cases hc
 | agg=>cases ha
 | jy=>cases hc
 | un=>cases hc
 | cG=>cases hc
 | op r o v h0 h1=>exact V.B6 (.op r o v h0 h1)
 | os r z o v h0 h1=>exact V.B6 (.os r z o v h0 h1)
 | om r o v h0 h1=>exact V.B6 (.om r o v h0 h1)
 | tl t f l v hd=>exact hd.one
 | _=>rfl
def lx (a:Bool) (t:Ty) (p:A):Option t.T:=bif a then (match p with
 | .agg cs=>pN t cs
 | _=>none) else bif yF p then none else (match p.cells with
 | some cs=>bif Nat.beq t.size 1 then pN t cs else none
 | none=>none)
theorem kq {a:Bool} {t:Ty} {p:A} {x:t.T} (hx:lx a t p=some x) {g:G} {v:Value} (hv:V g p v):V g (bO a t x) v:=by
 unfold lx at hx
 unfold bO
 cases a with
 | true=>
  simp only [cond_true] at hx ⊢
  split at hx
  ·rename_i cs
   obtain ⟨us,rfl⟩:=hv.xz rfl
   exact Vs.agg ((jJ (g:=g) t cs x hx).2 _ (hv.cells rfl))
  ·cases hx
 | false=>
  simp only [cond_false] at hx ⊢
  cases ha:yF p with
  | true=>rw [ha] at hx;cases hx
  | false=>
   rw [ha] at hx;simp only [cond_false] at hx
   split at hx
   ·rename_i cs hc
    obtain ⟨h1,hx⟩:=af hx
    have h1:=beq_eq h1
    have Co:=(jJ (g:=g) t cs x hx).2 _ (hv.cells hc)
    rw [tE (hv.sc1 ha hc)] at Co
    have hl:(aA t x).length=1:=by rw [bI];exact h1
    match he:aA t x,hl with
    | [c],_=>
     rw [he] at Co
     exact (Co.2 0 c v rfl rfl).1
   ·cases hx
theorem fc.conv {S S':Hp} {ρ':Operand→A} {pv:A} (hc:∀x∈o.op.operands,∀g v,V g (ρ x) v→V g (ρ' x) v) (k:fc P o ρ' S S' pv):fc P o ρ S S' pv:=
 fun g w a next Q hI hv K=>k g w a next Q hI (fun x hx=>hc x hx g _ (hv x hx)) K
def told (ρ:Operand→A) (y:Operand) (p:A):Operand→A:=fun z=>open Classical in if z=y then p else ρ z
theorem gm {ρ:Operand→A} {y:Operand} {p:A}:told ρ y p y=p:=if_pos rfl
theorem oO {ρ:Operand→A} {y z:Operand} {p:A} (h:z≠y):told ρ y p z=ρ z:=if_neg h
theorem pV {ρ:Operand→A} {y:Operand} {p:A} (h:∀g v,V g (ρ y) v→V g p v):∀(x:Operand) (g:G) (v:Value),V g (ρ x) v→V g (told ρ y p x) v:=fun x g v hv=>by
 by_cases hx:x=y
 ·subst hx;rw [gm];exact h g v hv
 ·rw [oO hx];exact hv
def Uu (h:H) (r j:Nat) (k:(ka:Bool)→(tk:Ty)→(va:Bool)→(tv:Ty)→List (tk.T×tv.T)→Option β):Option β:=match bq h.rg r with
 | some ⟨_,.map ka tk va tv,c⟩=>bif Nat.blt r 64 then k ka tk va tv (nth (α:=List (tk.T×tv.T)) [] c j) else none
 | _=>none
def iE (ka:Bool) (tk:Ty) (va:Bool) (tv:Ty) (es:List (tk.T×tv.T)):List (A×A):=es.map fun e=>(bO ka tk e.1,bO va tv e.2)
theorem BG {ka va:Bool} {tk tv:Ty} {c:List (List (tk.T×tv.T))} {j:Nat} (h:j<c.length):dQ (.map ka tk va tv) c j=some (.cX (.map (iE ka tk va tv (nth [] c j)))):=by
 show (match lA (α:=List (tk.T×tv.T)) c j with | some es=>some (Ob.cX (.map (iE ka tk va tv es))) | none=>none)=_
 have e:lA c j=some (nth [] c j):=by simp [lA,nth,zA,zD h]
 rw [e]
theorem yr {q j:Nat} {k:(ka:Bool)→(tk:Ty)→(va:Bool)→(tv:Ty)→List (tk.T×tv.T)→Option β} (hr:Uu h q j k=some r):∃(ka:Bool) (tk:Ty) (va:Bool) (tv:Ty) (es:List (tk.T×tv.T)),k ka tk va tv es=some r∧q<64∧(∃x:Rg,bq h.rg q=some x∧∃c:List (List (tk.T×tv.T)),x=⟨x.r,.map ka tk va tv,c⟩∧es=nth [] c j) ∧
  ∀g S (w:World) b s,Inv g S w→S.ob (fE q j)=(hp h).ob (fE q j)→(S.fr (fE q j)↔(hp h).fr (fE q j))→g.bm (fE q j)=some (some b,s)→S.ob (fE q j)=some (.cX (.map (iE ka tk va tv es))):=by
 unfold Uu at hr
 split at hr
 ·rename_i rr ka tk va tv c hf
  obtain ⟨h1,h2⟩:=af hr
  have h3:q<64:=aY h1
  refine ⟨ka,tk,va,tv,_,h2,h3,⟨_,hf,c,rfl,rfl⟩,fun g S w b s hI e e2 hg=>?_⟩
  have eO:j<List.length (α:=List (tk.T×tv.T)) c:=by
   rcases Nat.lt_or_ge j (List.length (α:=List (tk.T×tv.T)) c) with eO | vM
   ·exact eO
   ·have:S.fr (fE q j):=e2.2 (by rw [gA.2,f_ h3 hf];exact vM)
    have:=hI.fresh _ this
    rw [this] at hg;cases hg
  rw [e,gA.1,lr h3 hf]
  exact BG eO
 ·cases hr
def Cj (ok:Bool) (z:A) (res:Option (Nat×A)) (h:H) (T:Fp) (K:A→H→Fp→Option β):Option β:=bif ok then K (.jy [Bx z res,.v (.bool res.isSome)]) h T else DD (Bx z res) (fun v=>K v h T)
theorem Aq {ok:Bool} {z:A} {res:Option (Nat×A)} {T:List Nat} (hd:∀c,o.op≠.defer c) (hr:Cj ok z res h (.rd T) K=some r) (k:∀S2,Agree (.rd T) (hp h) S2→fc P o ρ S2 S2 (bif ok then .jy [Bx z res,.v (.bool res.isSome)] else Bx z res)):Out P o ρ h K r:=by
 unfold Cj at hr
 cases ok with
 | true=>exact .read T hr k hd
 | false=>exact .sp hr (.read _ k hd)
def M8 (E:Env) (T:Nat) (ok:Bool) (px py:A) (h:H) (K:A→H→Fp→Option β):Option β:=match cu E.dP T with
 | some ⟨.map KT VT,_,_,_,_,_,_⟩=>match cu E.dP KT,cu E.dP VT with
  | some e,some e2=>match Dk e2.zero with
   | some z=>match px with
    | .mp (.loc q)=>match h.t.get q with
     | some (.cX (.map es))=>match jC E KT e.d py py with
      | some _=>bif mg E e.d && Nat.blt q 16777216 then tP (jC E KT e.d py) es 0 (fun res=>Cj ok z res h (.rd [dz q]) K) else none
      | none=>none
     | _=>none
    | .mp (.eH q j)=>Uu h q j (fun ka tk va tv es=>bif ER E KT e ka tk && mg E e.d then (match lx ka tk py with
     | some x=>opt (G2 (tR tk x) es 0) (Cj ok z none h (.rd [iF q]) K) (fun p=>Cj ok z (some (p.1,bO va tv p.2)) h (.rd [iF q]) K)
     | none=>none) else none)
    | _=>none
   | none=>none
  | _,_=>none
 | _=>none
theorem Is (hE:bT P E) {T:Nat} {x y:Operand} {ok:Bool} (ho:o.op = .lookup T x y ok) (hr:M8 E T ok (ρ x) (ρ y) h K=some r):Out P o ρ h K r:=by
 have hd:∀c,o.op≠.defer c:=by rw [ho];intro c e;cases e
 unfold M8 at hr
 split at hr
 ·rename_i KT VT _ _ _ _ _ _ ht
  have hT:=(hE.dP _ _ ht).u
  split at hr
  ·rename_i e e2 he Vh
   obtain ⟨i,t1,t2,t3,t4,t5,t6⟩:=(hE.dP _ _ Vh).ti
   split at hr
   ·rename_i z hz
    have hzz:=Dj hz t6
    split at hr
    ·rename_i q hx
     split at hr
     ·rename_i es hg
      split at hr
      ·rename_i b hs
       obtain ⟨h1,hr⟩:=af hr
       simp only [zC] at h1
       have hq:=aY h1.2
       obtain ⟨res,k1,k2⟩:=pB _ _ _ hr
       have fe:(hp h).ob q=some (.cX (.map es)):=by rw [ku hq];unfold fO;rw [hg];rfl
       exact Aq hd k1 (fun S2 hA=>rL hE ho hT he Vh h1.1 hs hx ((hA q (aB hq (.head _))).1.trans fe) k2 hzz)
      ·cases hr
     ·cases hr
    ·rename_i q j hx
     obtain ⟨ka,tk,va,tv,es,hr,hq,_,fe⟩:=yr hr
     obtain ⟨h1,hr⟩:=af hr
     simp only [zC] at h1
     split at hr
     ·rename_i kx rZ
      have lf:x≠y:=fun e=>by
       rw [←e,hx] at rZ
       unfold lx at rZ
       cases ka with
       | true=>cases rZ
       | false=>
        simp only [cond_false,yF,A.cells] at rZ
        obtain ⟨_,rZ⟩:=af rZ
        have hs:=h1.1
        unfold ER at hs
        split at hs
        ·simp only [Bool.not_false,Bool.true_and] at hs
         split at hs
         ·simp [pN] at rZ
         ·cases hs
        ·simp at hs
        ·cases hs
      have main:∀res,G2 (tR tk kx) es 0=res→Cj ok z (res.map fun p=>(p.1,bO va tv p.2)) h (.rd [iF q]) K=some r→Out P o ρ h K r:=fun res hm hr=>by
       refine Aq hd hr (fun S2 hA=>fc.bm fun g w a hI hv=>?_)
       have vL:=hv x (by simp [ho,Op.operands])
       rw [hx] at vL
       have ha:=hA (fE q j) (bX (r:=q) (j:=j) hq (.head _))
       have wZ:∃b s,g.bm (fE q j)=some (some b,s):=by
        generalize a.eval x=vx at vL
        cases vL with
        | mp _ b s bK=>exact ⟨b,s,bK⟩
       obtain ⟨b,s,bK⟩:=wZ
       have dX:=fe g S2 w b s hI ha.1 ha.2 bK
       refine fc.conv (ρ':=told ρ y (bO ka tk kx)) (fun x _ g v hv=>pV (fun g v hv=>kq rZ hv) x g v hv) ?_
       have hf:=kP (va:=va) (tv:=tv) he h1.1 kx es 0
       rw [hm] at hf
       exact rL (X:=.eH q j) (es:=iE ka tk va tv es) hE ho hT he Vh h1.2 (b:=tR tk kx kx) (by rw [gm];exact uK he h1.1 kx kx) (by rw [oO lf,hx]) dX (by rw [gm];exact hf) hzz
      rcases iL hr with ⟨e,hr⟩ | ⟨p,e,hr⟩
      ·exact main none e hr
      ·exact main (some p) e hr
     ·cases hr
    ·cases hr
   ·cases hr
  ·cases hr
 ·cases hr
def Uv (h:H) (K:A→H→Fp→Option β):Option β:=nF (.cX (.map [])) h (fun q h'=>K (.mp (.loc q)) h' (.wr [dz q]))
theorem Iq {T:Nat} (ho:o.op = .makeMap T none) (hr:Uv h K=some r):Out P o ρ h K r:=by
 have hd:∀c,o.op≠.defer c:=by rw [ho];intro c e;cases e
 obtain ⟨h',k1,hq,hf,hh⟩:=fW hr
 exact ⟨_,_,_,k1,.of _ hh rfl (fun u hu=>by rcases zF.1 hu with rfl;exact aB (o:=h.aR) hq (.head _)) (fun S2 hA=>wE ho ((hA _ (aB hq (.head _))).2.2 hf)) hd⟩
def BN (h:H) (q j:Nat) (ka:Bool) (tk:Ty) (va:Bool) (tv:Ty) (es:List (tk.T×tv.T)) (k:H→Option β):Option β:=bif wR h (iF q) then none else match bq h.rg q with
 | some ⟨_,.map ka' Yv Zk Yu,c⟩=>if ka=ka'∧va=Zk then (match fR (.aF (.pair tk tv)) (.aF (.pair Yv Yu)) es with
  | some oC=>k { h with rg:=jK h.rg q (.map ka' Yv Zk Yu) (upd (α:=List (Yv.T×Yu.T)) c j oC) }
  | none=>none) else none
 | _=>none
theorem rB {ka va:Bool} {tk tv:Ty} {c:List (List (tk.T×tv.T))} {j:Nat} {es:List (tk.T×tv.T)} (hj:j<c.length) (i:Nat):dQ (.map ka tk va tv) (upd c j es) i=if i=j then some (.cX (.map (iE ka tk va tv es))) else dQ (.map ka tk va tv) c i:=by
 show (match lA (α:=List (tk.T×tv.T)) (upd c j es) i with | some es=>some (Ob.cX (.map (iE ka tk va tv es))) | none=>none)=if i=j then some (.cX (.map (iE ka tk va tv es))) else (match lA (α:=List (tk.T×tv.T)) c i with | some es=>some (Ob.cX (.map (iE ka tk va tv es))) | none=>none)
 rw [pn]
 by_cases h:i=j
 ·rw [if_pos ⟨h,hj⟩,if_pos h]
 ·rw [if_neg (fun k=>h k.1),if_neg h]
theorem uw {q j:Nat} {ka:Bool} {tk:Ty} {va:Bool} {tv:Ty} {es:List (tk.T×tv.T)} {k:H→Option β} (h3:q<64) (hr:BN h q j ka tk va tv es k=some r):∃h',k h'=some r∧xD h h' (.eH q j) (.cX (.map (iE ka tk va tv es))):=by
 obtain ⟨_,hr⟩:=jH hr
 split at hr
 ·rename_i rr ka' Yv Zk Yu c hf
  split at hr
  ·rename_i e
   obtain ⟨rfl,rfl⟩:=e
   split at hr
   rotate_left
   ·cases hr
   rename_i oC qW
   obtain ⟨e,qW⟩:=cr qW
   cases e
   obtain rfl:es=oC:=qW
   refine ⟨_,hr,fun i hi=>?_,fun oH=>?_⟩
   ·have hn:=rj h3 hi
    have:=lY (h:=h) (k:=.map ka tk va tv) (c:=upd (α:=List (tk.T×tv.T)) c j es) hf i
    rw [if_neg hn,if_neg hn] at this
    exact this
   ·have eO:j<List.length (α:=List (tk.T×tv.T)) c:=by
     rcases Nat.lt_or_ge j (List.length (α:=List (tk.T×tv.T)) c) with eO | vM
     ·exact eO
     ·exact absurd (by rw [show (Ref.eH q j).id=fE q j from rfl,gA.2,f_ h3 hf];exact vM) oH
    exact rX (j:=j) (u:=.set (fE q j) _) h3 hf (qR (α:=List (tk.T×tv.T)) c j _) (fun i hi=>by rw [rB (c:=c) eO,if_neg hi]) rfl (by rw [rB (c:=c) eO,if_pos rfl];exact yd) rfl
  ·cases hr
 ·cases hr
def An (E:Env) (T:Nat) (ins ne:Bool) (px py pz:A) (h:H) (K:A→H→Fp→Option β):Option β:=match cu E.dP T with
 | some ⟨.map KT _,_,_,_,_,_,_⟩=>match cu E.dP KT with
  | some e=>match px with
   | .mp (.loc q)=>match h.t.get q with
    | some (.cX (.map es))=>match jC E KT e.d py py with
     | some _=>bif mg E e.d && Nat.blt q 16777216 && !(wR h (dz q)) then tP (jC E KT e.d py) es 0 (fun res=>match res with
      | none=>fg h.t q (some (.cX (.map (es++[(py,pz)])))) (fun t1=>K .cG { h with t:=t1 } (.wr [dz q]))
      | some _=>none) else none
     | none=>none
    | _=>none
   | .mp (.eH q j)=>Uu h q j (fun ka tk va tv es=>bif ER E KT e ka tk && mg E e.d && ne then (match lx ka tk py,lx va tv pz with
    | some x,some y=>opt (G2 (tR tk x) es 0) (BN h q j ka tk va tv (cat es [(x,y)]) (fun h'=>K .cG h' (.wr [iF q])))
     (fun p=>bif ins then none else BN h q j ka tk va tv (M4 es p.1 y) (fun h'=>K .cG h' (.wr [iF q])))
    | _,_=>none) else none)
   | _=>none
  | none=>none
 | _=>none
theorem wO {κ α:Type} {p:κ→Bool}:∀(l:List (κ×α)) (i n:Nat) (v:α),G2 p l i=some (n,v)→∃m k,n=i+m∧l[m]?=some (k,v)∧p k=true
 | [],_,_,_,h=>by cases h
 | (k,v)::l,i,n,v',h=>by
  unfold G2 at h
  cases hk:p k with
  | true=>rw [hk] at h;cases h;exact ⟨0,k,rfl,rfl,hk⟩
  | false=>
   rw [hk] at h
   obtain ⟨m,k',h1,h2,h3⟩:=wO l (i+1) n v' h
   exact ⟨m+1,k',by omega,h2,h3⟩
theorem V.Im {g:G} {X:Ref} {v:Value} (hv:V g (.mp X) v):∃b s,g.bm X.id=some (some b,s):=by
 cases hv with
 | mp _ b s bK=>exact ⟨b,s,bK⟩
theorem wx {E:Env} {K:Nat} {e:ct} {ka:Bool} {tk:Ty} {X:Ref} {kx:tk.T} (hs:ER E K e ka tk=true) (rZ:lx ka tk (.mp X)=some kx):False:=by
 unfold lx at rZ
 cases ka with
 | true=>cases rZ
 | false=>
  simp only [cond_false,yF,A.cells] at rZ
  obtain ⟨_,rZ⟩:=af rZ
  unfold ER at hs
  split at hs
  ·simp only [Bool.not_false,Bool.true_and] at hs
   split at hs
   ·simp [pN] at rZ
   ·cases hs
  ·simp at hs
  ·cases hs
theorem wM (hE:bT P E) {T:Nat} {x y z:Operand} {ins ne:Bool} (hzy:ne=true→z≠y) (ho:(ins=false∧o.op = .mapUpdate T x y z)∨(ins=true∧o.op = .insert T x y z)) (hr:An E T ins ne (ρ x) (ρ y) (ρ z) h K=some r):Out P o ρ h K r:=by
 have hd:∀c,o.op≠.defer c:=by rcases ho with ⟨_,ho⟩ | ⟨_,ho⟩<;>(rw [ho];intro c e;cases e)
 have Fi:o.op = .mapUpdate T x y z∨o.op = .insert T x y z:=by rcases ho with ⟨_,ho⟩ | ⟨_,ho⟩<;>simp [ho]
 have oA:x∈o.op.operands:=by rcases Fi with ho | ho<;>simp [ho,Op.operands]
 unfold An at hr
 split at hr
 ·rename_i KT VT _ _ _ _ _ _ ht
  have hT:=(hE.dP _ _ ht).u
  split at hr
  ·rename_i e he
   split at hr
   ·rename_i q hx
    split at hr
    ·rename_i es hg
     split at hr
     ·rename_i b hs
      obtain ⟨h1,hr⟩:=af hr
      simp only [zC] at h1
      have hq:=aY h1.1.2
      obtain ⟨res,k1,k2⟩:=pB _ _ _ hr
      have fe:(hp h).ob q=some (.cX (.map es)):=by rw [ku hq];unfold fO;rw [hg];rfl
      split at k1
      ·obtain ⟨_,t1,k3,k4⟩:=bo k1
       exact ⟨_,_,_,k3,.of [.set q (.cX (.map (es++[(ρ y,ρ z)])))] (qf (x:=.cX (.map (es++[(ρ y,ρ z)]))) hq k4) rfl (fun u hu=>by rcases zF.1 hu with rfl;exact aB (o:=q) hq (.head _))
        (fun S2 hA=>Ak hE Fi hT he h1.1.1 hs hx ((hA q (aB hq (.head _))).1.trans fe) (fun g v hv=>hv) (fun g v hv=>hv) k2) hd⟩
      ·cases k1
     ·cases hr
    ·cases hr
   ·rename_i q j hx
    obtain ⟨ka,tk,va,tv,es,hr,hq,_,fe⟩:=yr hr
    obtain ⟨h1,hr⟩:=af hr
    simp only [zC] at h1
    split at hr
    ·rename_i kx vy rZ hvy
     have lf:x≠y:=fun e=>by rw [←e,hx] at rZ;exact wx h1.1.1 rZ
     have hX:B8 (.eH q j)=true:=by show Nat.blt q 64=true;simpa using hq
     have BP:∀(g:G) (S:Hp) (w:World) (a:Act),Inv g S w→(∀x∈o.op.operands,V g (ρ x) (a.eval x))→g.bm (Ref.eH q j).id≠none:=fun g S w a hI hv=>by
      have vL:=hv x oA
      rw [hx] at vL
      obtain ⟨b,s,bK⟩:=vL.Im
      rw [bK];intro h;cases h
     have here:∀S2,Agree (.wr (jg (.eH q j)::[])) (hp h) S2→∀{S':Hp} {pv:A},(S2.ob (fE q j)=some (.cX (.map (iE ka tk va tv es)))→fc P o ρ S2 S' pv)→fc P o ρ S2 S' pv:=fun S2 hA _ _ k=>fc.bm fun g w a hI hv=>by
      have vL:=hv x oA
      rw [hx] at vL
      obtain ⟨b,s,bK⟩:=vL.Im
      have ha:=hA (fE q j) (bX (r:=q) (j:=j) hq (.head _))
      exact k (fe g S2 w b s hI ha.1 ha.2 bK)
     have YR:told ρ y (bO ka tk kx) x = .mp (.eH q j):=by rw [oO lf,hx]
     have ON:∀g v,V g (told ρ y (bO ka tk kx) z) v→V g (bO va tv vy) v:=fun g v hv=>by
      rw [oO (hzy h1.2)] at hv;exact kq hvy hv
     have conv:=fun {S S':Hp} {pv:A}=>fc.conv (P:=P) (o:=o) (ρ:=ρ) (ρ':=told ρ y (bO ka tk kx)) (S:=S) (S':=S') (pv:=pv) (fun x _ g v hv=>pV (fun g v hv=>kq rZ hv) x g v hv)
     have hs:jC E KT e.d (told ρ y (bO ka tk kx) y) (told ρ y (bO ka tk kx) y)=some (tR tk kx kx):=by rw [gm];exact uK he h1.1.1 kx kx
     have hf:=kP (va:=va) (tv:=tv) he h1.1.1 kx es 0
     rcases iL hr with ⟨e1,hr⟩ | ⟨p,e1,hr⟩
     ·obtain ⟨h',k1,k2⟩:=uw hq hr
      refine ⟨_,_,_,k1,.put hd hX k2 BP (fun S2 hA=>here S2 hA fun dX=>?_)⟩
      have e2:iE ka tk va tv (cat es [(kx,vy)])=iE ka tk va tv es++[(bO ka tk kx,bO va tv vy)]:=by simp [iE,cat]
      rw [e2]
      rw [e1] at hf
      exact conv (Ak (X:=.eH q j) hE Fi hT he h1.1.2 hs YR dX (fun g v hv=>by rw [gm] at hv;exact hv) ON (by rw [gm];exact hf))
     ·cases hi:ins with
      | true=>rw [hi] at hr;cases hr
      | false=>
       rw [hi] at hr;simp only [cond_false] at hr
       obtain ⟨h',k1,k2⟩:=uw hq hr
       refine ⟨_,_,_,k1,.put hd hX k2 BP (fun S2 hA=>here S2 hA fun dX=>?_)⟩
       have e2:iE ka tk va tv (M4 es p.1 vy)=Ch (iE ka tk va tv es) p.1 (bO va tv vy):=by
        unfold iE M4 Ch
        apply List.ext_getElem?
        intro m
        simp only [zL,List.getElem?_modify]
        cases es[m]? with
        | none=>rfl
        | some u=>
         by_cases hm:p.1=m
         ·simp [hm]
         ·simp [hm]
       rw [e2]
       rw [e1] at hf
       obtain ⟨m,kk,m1,m2,m3⟩:=wO es 0 p.1 p.2 e1
       have hmu:o.op = .mapUpdate T x y z:=by
        rcases ho with ⟨_,ho⟩ | ⟨hh,_⟩
        ·exact ho
        ·rw [hi] at hh;cases hh
       refine conv (Es (X:=.eH q j) (n:=p.1) hE hmu hT he h1.1.2 hs YR dX ON (by rw [gm];exact hf) (fun g v u v' hu hv xN=>?_))
       rw [gm] at hv
       have wW:(iE ka tk va tv es)[p.1]?=some (bO ka tk kk,bO va tv p.2):=by
        rw [m1,Nat.zero_add]
        unfold iE
        rw [zL,m2];rfl
       rw [wW] at hu
       cases hu
       exact EP h1.1.1 m3 hv xN
    ·cases hr
   ·cases hr
  ·cases hr
 ·cases hr
end
end
set_option linter.unusedVariables false
set_option linter.unusedSimpArgs false
section
open Go.RowKit
section
variable {P:Program} {E:Env} {o:Oper} {ρ:Operand→A} {h:H} {β:Type} {K:A→H→Fp→Option β} {r:β}
def EJ (E:Env) (T:Nat) (px py:A) (h:H) (K:A→H→Fp→Option β):Option β:=match cu E.dP T with
 | some ⟨.map KT _,_,_,_,_,_,_⟩=>match cu E.dP KT with
  | some e=>match px with
   | .mp (.loc q)=>match h.t.get q with
    | some (.cX (.map es))=>match jC E KT e.d py py with
     | some _=>bif mg E e.d && Nat.blt q 16777216 && !(wR h (dz q)) then tP (jC E KT e.d py) es 0 (fun res=>fg h.t q (some (.cX (.map (FQ es res)))) (fun t1=>K .cG { h with t:=t1 } (.wr [dz q]))) else none
     | none=>none
    | _=>none
   | .mp (.eH q j)=>Uu h q j (fun ka tk va tv es=>bif ER E KT e ka tk && mg E e.d then (match lx ka tk py with
    | some x=>opt (G2 (tR tk x) es 0) (BN h q j ka tk va tv es (fun h'=>K .cG h' (.wr [iF q])))
     (fun p=>BN h q j ka tk va tv (M6 es p.1) (fun h'=>K .cG h' (.wr [iF q])))
    | none=>none) else none)
   | _=>none
  | none=>none
 | _=>none
theorem FW {ka:Bool} {tk:Ty} {va:Bool} {tv:Ty} (es:List (tk.T×tv.T)) (p:Option (Nat×tv.T)) :
  iE ka tk va tv (match p with | some p=>M6 es p.1 | none=>es)=FQ (iE ka tk va tv es) (p.map fun p=>(p.1,bO va tv p.2)):=by
 cases p with
 | none=>rfl
 | some p=>
  show (es.eraseIdx p.1).map _=(es.map _).eraseIdx p.1
  generalize p.1=n
  induction es generalizing n with
  | nil=>rfl
  | cons a es ih=>cases n with
   | zero=>rfl
   | succ n=>simp only [List.map_cons,List.eraseIdx_cons_succ,List.map_cons,ih n]
theorem EI (hE:bT P E) {T:Nat} {x y:Operand} {Ts:Array TypeId} (ho:o.op = .call { callee:=.builtin .delete,args:=#[x,y],argTypes:=Ts }) (h0:Ts[0]?=some T) (hr:EJ E T (ρ x) (ρ y) h K=some r):Out P o ρ h K r:=by
 have hd:∀c,o.op≠.defer c:=by rw [ho];intro c e;cases e
 have oA:x∈o.op.operands:=by simp [ho,Op.operands,Call.operands]
 unfold EJ at hr
 split at hr
 ·rename_i KT VT _ _ _ _ _ _ ht
  have hT:=(hE.dP _ _ ht).u
  split at hr
  ·rename_i e he
   split at hr
   ·rename_i q hx
    split at hr
    ·rename_i es hg
     split at hr
     ·rename_i b hs
      obtain ⟨h1,hr⟩:=af hr
      simp only [zC] at h1
      have hq:=aY h1.1.2
      obtain ⟨res,k1,k2⟩:=pB _ _ _ hr
      have fe:(hp h).ob q=some (.cX (.map es)):=by rw [ku hq];unfold fO;rw [hg];rfl
      obtain ⟨_,t1,k3,k4⟩:=bo k1
      exact ⟨_,_,_,k3,.of [.set q (.cX (.map (FQ es res)))] (qf (x:=.cX (.map (FQ es res))) hq k4) rfl (fun u hu=>by rcases zF.1 hu with rfl;exact aB (o:=q) hq (.head _))
       (fun S2 hA=>rM hE ho h0 hT he h1.1.1 hs hx ((hA q (aB hq (.head _))).1.trans fe) k2) hd⟩
     ·cases hr
    ·cases hr
   ·rename_i q j hx
    obtain ⟨ka,tk,va,tv,es,hr,hq,_,fe⟩:=yr hr
    obtain ⟨h1,hr⟩:=af hr
    simp only [zC] at h1
    split at hr
    ·rename_i kx rZ
     have lf:x≠y:=fun e=>by rw [←e,hx] at rZ;exact wx h1.1 rZ
     have hX:B8 (.eH q j)=true:=by show Nat.blt q 64=true;simpa using hq
     have BP:∀(g:G) (S:Hp) (w:World) (a:Act),Inv g S w→(∀x∈o.op.operands,V g (ρ x) (a.eval x))→g.bm (Ref.eH q j).id≠none:=fun g S w a hI hv=>by
      have vL:=hv x oA
      rw [hx] at vL
      obtain ⟨b,s,bK⟩:=vL.Im
      rw [bK];intro h;cases h
     have here:∀S2,Agree (.wr (jg (.eH q j)::[])) (hp h) S2→∀{S':Hp} {pv:A},(S2.ob (fE q j)=some (.cX (.map (iE ka tk va tv es)))→fc P o ρ S2 S' pv)→fc P o ρ S2 S' pv:=fun S2 hA _ _ k=>fc.bm fun g w a hI hv=>by
      have vL:=hv x oA
      rw [hx] at vL
      obtain ⟨b,s,bK⟩:=vL.Im
      have ha:=hA (fE q j) (bX (r:=q) (j:=j) hq (.head _))
      exact k (fe g S2 w b s hI ha.1 ha.2 bK)
     have YR:told ρ y (bO ka tk kx) x = .mp (.eH q j):=by rw [oO lf,hx]
     have conv:=fun {S S':Hp} {pv:A}=>fc.conv (P:=P) (o:=o) (ρ:=ρ) (ρ':=told ρ y (bO ka tk kx)) (S:=S) (S':=S') (pv:=pv) (fun x _ g v hv=>pV (fun g v hv=>kq rZ hv) x g v hv)
     have hs:jC E KT e.d (told ρ y (bO ka tk kx) y) (told ρ y (bO ka tk kx) y)=some (tR tk kx kx):=by rw [gm];exact uK he h1.1 kx kx
     have hf:=kP (va:=va) (tv:=tv) he h1.1 kx es 0
     have main:∀p,G2 (tR tk kx) es 0=p→BN h q j ka tk va tv (match p with | some p=>M6 es p.1 | none=>es) (fun h'=>K .cG h' (.wr [iF q]))=some r→Out P o ρ h K r:=fun p Cs hr=>by
      obtain ⟨h',k1,k2⟩:=uw hq hr
      refine ⟨_,_,_,k1,.put hd hX k2 BP (fun S2 hA=>here S2 hA fun dX=>?_)⟩
      rw [Cs] at hf
      rw [FW]
      exact conv (rM (X:=.eH q j) hE ho h0 hT he h1.2 hs YR dX (by rw [gm];exact hf))
     rcases iL hr with ⟨e1,hr⟩ | ⟨p,e1,hr⟩
     ·exact main none e1 hr
     ·exact main (some p) e1 hr
    ·cases hr
   ·cases hr
  ·cases hr
 ·cases hr
def yK:List (Nat×Nat)→Nat→Option Nat
 | [],_=>none
 | (t,r)::l,T=>bif Nat.beq t T then some r else yK l T
def Ec (h:H) (q:Nat) (t:Ty) (x:t.T) (k:Nat→H→Option β):Option β:=bif wR h (iF q) then none else match bq h.rg q with
 | some ⟨_,.box t',c⟩=>match fR t t' x with
  | some x'=>bif Nat.blt q 64 then k (len (α:=t'.T) c) { h with rg:=jK h.rg q (.box t') (cat (α:=t'.T) c [x']) } else none
  | none=>none
 | _=>none
theorem wv {q:Nat} {t:Ty} {x:t.T} {k:Nat→H→Option β} (hr:Ec h q t x k=some r):∃h' j,k j h'=some r∧q<64∧(hp h).fr (fE q j)∧hp h'=app [.new (fE q j) (.cells (aA t x))] (hp h):=by
 obtain ⟨_,hr⟩:=jH hr
 split at hr
 ·rename_i rr t' c hf
  split at hr
  ·rename_i x' hx
   obtain ⟨e,hx⟩:=cr hx
   subst e
   obtain rfl:x=x':=hx
   obtain ⟨h1,hr⟩:=af hr
   have h3:q<64:=aY h1
   refine ⟨_,_,hr,h3,?_,?_⟩
   ·rw [gA.2,f_ h3 hf];exact Nat.le_refl _
   ·exact pb (k:=.box t) (c:=cat (α:=t.T) c [x]) (n:=List.length (α:=t.T) c) h3 hf rfl (o8 (α:=t.T) c _) (fun j=>rD (c:=c) (x:=x) j)
  ·cases hr
 ·cases hr
theorem V.HO {g:G} {q j:Nat} {v:Value} (hv:V g (.ptr (fE q j) 0) v):V g (.tp (.eH q j) []) v:=by
 cases hv with
 | ptr _ _ b s hb=>exact .tp (.eH q j) [] b s hb trivial
def Oo (E:Env) (hm:List (Nat×Nat)) (T:Nat) (h:H) (K:A→H→Fp→Option β):Option β:=match yK hm T with
 | some q=>match cu E.dP T with
  | some e=>match e.t with
   | some t=>Ec h q t t.cQ (fun j h'=>K (.tp (.eH q j) []) h' (.wr [iF q]))
   | none=>none
  | none=>none
 | none=>Oq E T h K
theorem Jv (hE:bT P E) {hm:List (Nat×Nat)} {T:Nat} (ho:o.op = .alloc T) (hr:Oo E hm T h K=some r):Out P o ρ h K r:=by
 have hd:∀c,o.op≠.defer c:=by rw [ho];intro c e;cases e
 unfold Oo at hr
 split at hr
 ·rename_i q _
  split at hr
  ·rename_i e ht
   have hk:=hE.dP _ _ ht
   obtain ⟨i,t1,t2,t3,t4,t5,t6⟩:=hk.ti
   split at hr
   ·rename_i t xO
    obtain ⟨h',j,k1,hq,hf,hh⟩:=wv hr
    exact ⟨_,_,_,k1,Step.Dm (.of _ hh rfl (fun u hu=>by rcases zF.1 hu with rfl;exact bX (r:=q) (j:=j) hq (.head _)) (fun S2 hA=>oq ho t1 t2 (hk.tz t xO) ((hA _ (bX (r:=q) (j:=j) hq (.head _))).2.2 hf)) hd) (fun g v hv=>hv.HO)⟩
   ·cases hr
  ·cases hr
 ·exact Jw hE ho hr
def Og (E:Env) (hm:List (Nat×Nat)) (T:Nat) (px:A) (h:H) (K:A→H→Fp→Option β):Option β:=match yK hm T with
 | some q=>match cu E.dP T,px.cells with
  | some e,some ps=>match e.t with
   | some t=>match fixC 64 t ps h with
    | some (uy,h1,T1)=>match pN t uy with
     | some x=>Ec h1 q t x (fun j h'=>K (.tp (.eH q j) []) h' (.wr (iF q::T1)))
     | none=>none
    | none=>none
   | none=>none
  | _,_=>none
 | none=>Gq E T px h K
theorem Step.aai {T1:List Nat} {h1 h2:H} {us:List Up} {x:Ob} {pv:A} {q j:Nat} (c1:hp h1=app us (hp h)) (c2:∀u∈us,touch (.wr T1) u.id=true) (hq:q<64) (hf:(hp h1).fr (fE q j)) (hh:hp h2=app [.new (fE q j) x] (hp h1)) (hd:∀c,o.op≠.defer c)
  (k:∀S2 g w a,Agree (.wr T1) (hp h) S2→(app us S2).fr (fE q j)→Inv g S2 w→(∀x∈o.op.operands,V g (ρ x) (a.eval x))→tc P o S2 ((app us S2).new (fE q j) x) pv g w a):Step P o ρ h h2 (.wr (iF q::T1)) pv:=
 .of (us++[.new (fE q j) x]) (by rw [iS,←c1,hh]) rfl (fun u hu=>by
  rcases zX.1 hu with hu | hu
  ·exact ff (fun i hi=>.tail _ hi) (c2 u hu)
  ·rcases zF.1 hu with rfl;exact bX (r:=q) (j:=j) hq (.head _)) (fun S2 hA g w a next Q hI hv K'=>by
  have oH:(app us S2).fr (fE q j):=by
   have:=Agree.app us hA
   rw [←c1] at this
   exact (this (fE q j) (bX hq (.head _))).2.2 hf
  have e:=iS us [.new (fE q j) x] S2
  rw [e] at K'
  exact k S2 g w a (hA.mono fun i hi=>.tail _ hi) oH hI hv next Q K') hd
theorem Jm {S:Hp} {T:TypeId} {x:Operand} {qs:List A} {q:Nat} {g:G} {w:World} {a:Act} (ho:o.op = .box T x) (hI:Inv g S w) (e2:Vs g qs (a.eval x).cells.toList) (hf:S.fr q):tc P o S (S.new q (.cells qs)) (.ptr q 0) g w a:=by
 intro next Q K
 obtain ⟨h1,h2⟩:=hI.l7 hf (cs:=qs) (vs:=(a.eval x).cells) T (by have:=e2.1;simp at this ⊢;omega) e2.all
 unfold Oper.wp
 simp only [execOp,ho,Instr.box,Sem.run_bind,Result.andThen_ok,Sem.run_pure,newVar,newRow,run_newObj]
 exact K _ _ _ (.ptr _ _ w.heap.size _ cg) h1 h2
theorem Jk {hm:List (Nat×Nat)} {T:Nat} {x:Operand} (ho:o.op = .box T x) (hr:Og E hm T (ρ x) h K=some r):Out P o ρ h K r:=by
 have hd:∀c,o.op≠.defer c:=by rw [ho];intro c e;cases e
 unfold Og at hr
 split at hr
 ·rename_i q _
  split at hr
  ·rename_i e ps ht sZ
   split at hr
   ·rename_i t xO
    split at hr
    ·rename_i uy h1 T1 hf
     split at hr
     ·rename_i y hy
      obtain ⟨us,c1,c2,c3⟩:=pr _ _ _ _ _ _ _ hf
      obtain ⟨h',j,k1,hq,oH,hh⟩:=wv hr
      refine ⟨_,_,_,k1,Step.Dm (pv:=.ptr (fE q j) 0) (.aai c1 c2 hq oH hh hd (fun S2 g w a hA hf hI hv=>?_)) (fun g v hv=>?_)⟩
      ·obtain ⟨g1,q1,q2,q3⟩:=c3 g S2 w _ hI hA ((hv x (by simp [ho,Op.operands])).cells sZ)
       refine tc.pre ?_ q2
       exact Jm ho q1 ((jJ t uy y hy).2 _ q3) hf
      ·cases hv with
       | ptr _ _ b s h0=>exact .tp (.eH q j) [] b s h0 trivial
     ·cases hr
    ·cases hr
   ·cases hr
  ·cases hr
 ·exact Gp ho hr
end
end
set_option linter.unusedVariables false
set_option linter.unusedSimpArgs false
section
variable {P:Program} {E:Env} {o:Oper} {ρ:Operand→A} {h:H} {β:Type} {K:A→H→Fp→Option β} {r:β}
def fvK (E:Env) (T f:Nat) (px:A) (h:H) (K:A→H→Fp→Option β):Option β:=match px with
 | .agg cs=>match cu E.dP T with
  | some ⟨.struct fs,_,_,_,_,_,_⟩=>match fs[f]? with
   | some fd=>match cu E.dP fd.type with
    | some e=>bif j7 e.d then K (.agg ((cs.drop fd.offset).take e.size)) h .no else (match (cs.drop fd.offset).take e.size with
     | [p]=>DD p (fun v=>K v h .no)
     | _=>none)
    | none=>none
   | none=>none
  | _=>none
 | _=>none
theorem V.Yc {g:G} {cs:List A} {u:Value} (h:V g (.agg cs) u):∃vs,u = .agg vs∧Vs g cs vs.toList:=by
 cases h with
 | agg _ vs hl h1 hh=>
  refine ⟨vs,rfl,by simpa using hl,fun j c x a b=>?_⟩
  have b':vs[j]?=some x:=by simpa using b
  exact ⟨hh j c x a b',h1 x (zG b)⟩
theorem NF (hE:bT P E) {T f:Nat} {x:Operand} (ho:o.op = .field T x f) (hr:fvK E T f (ρ x) h K=some r):Out P o ρ h K r:=by
 have hd:∀c,o.op≠.defer c:=by rw [ho];intro c e;cases e
 unfold fvK at hr
 split at hr
 ·rename_i cs hx
  split at hr
  ·rename_i fs _ _ _ _ t _ ht
   split at hr
   ·rename_i fd hf
    split at hr
    ·rename_i e he
     have key:∀{S2:Hp} {v:A},(∀g xs,Vs g ((cs.drop fd.offset).take e.size) xs→∃u,valOf e.d xs u∧V g v u)→fc P o ρ S2 S2 v:=fun {S2 v} hk=>.value fun g w a _ hv=>by
      have e1:=hv x (by simp [ho,Op.operands])
      rw [hx] at e1
      obtain ⟨vs,e2,e3⟩:=e1.Yc
      obtain ⟨u,h1,h2⟩:=hk g _ (e3.part fd.offset e.size)
      refine ⟨u,?_,h2⟩
      simp only [execOp,ho,e2,Sem.run_bind,Instr.field,run_underlying (hE.dP _ _ ht).u,Result.andThen_ok,hf,asAgg,Sem.run_pure,oT (hE.dP _ _ he) h1 w]
     cases ha:j7 e.d with
     | true=>
      rw [ha] at hr
      refine .pure hr (fun S2=>key fun g xs yI=>⟨.agg xs.toArray,by simp [valOf,ha],?_⟩) hd
      exact .agg _ _ (by simpa using yI.1) (fun v hm=>by
       obtain ⟨j,hj⟩:=List.getElem?_of_mem hm
       simp only [List.toList_toArray] at hj
       have eO:j<((cs.drop fd.offset).take e.size).length:=by
        have:=(zB.1 hj).1;have:=yI.1;omega
       exact (yI.2 j _ v (zD eO) hj).2) (fun i c y h1 h2=>(yI.2 i c y h1 (by simpa using h2)).1)
     | false=>
      rw [ha] at hr
      simp only [cond_false] at hr
      split at hr
      ·rename_i p hp
       refine .sp hr (.pure (fun S2=>key fun g xs yI=>?_) hd)
       rw [hp] at yI
       obtain ⟨z,e1,e2⟩:=yI.single
       exact ⟨z,by simp [valOf,ha,e1],e2⟩
      ·cases hr
    ·cases hr
   ·cases hr
  ·cases hr
 ·cases hr
def isNil (py:A):Bool:=match py with
 | .v (.slice none 0 0)=>true
 | _=>false
theorem E2 {py:A} (h:isNil py=true):py = .v (.slice none 0 0):=by
 unfold isNil at h
 split at h
 ·rfl
 ·cases h
def FU (E:Env) (op:BinOp) (T:Nat) (X:Ref) (z:Nat) (h:H) (K:A→H→Fp→Option β):Option β:=bif isEq op then (match cu E.dP T with
  | some e=>match e.d with
   | .slice _=>jL h X (fun t l=>bif Nat.beq z t.size && Nat.blt 0 z then gd (bu 0 (len l)) (K (.v (.bool (Ce op false))) h (.rd [jg X])) else none)
   | _=>none
  | none=>none) else none
def NQ (E:Env) (op:BinOp) (T:Nat) (px py:A) (h:H) (K:A→H→Fp→Option β):Option β:=match px with
 | .tw X z=>bif isNil py then FU E op T X z h K else Gs E op T px py h K
 | .os r z o=>bif isNil py then opt o none (fun j=>FU E op T (.eH r j) z h K) else Gs E op T px py h K
 | _=>Gs E op T px py h K
theorem H7 {S:Hp} {op:BinOp} {T T' E:TypeId} {x y:Operand} (ho:o.op = .binOp op T x y T') (hT:P.underlying T=some (.slice E)) (mN:op = .eql∨op = .neq)
  (hy:ρ y = .v (.slice none 0 0)) (hx:∀g w v,Inv g S w→V g (ρ x) v→∃a n c,v = .slice (some a) n c):fc P o ρ S S (.v (.bool (if op = .eql then false else !false))):=
 .value fun g w a hI hv=>by
  have e2:=hv y (by simp [ho,Op.operands])
  rw [hy] at e2
  have e2:=e2.gw
  obtain ⟨A,n,c,h1⟩:=hx g w _ hI (hv x (by simp [ho,Op.operands]))
  have eL:=z8 (P:=P) w hT (some A) n c
  refine ⟨.bool (if op = .eql then false else !false),?_,.v _⟩
  have kz:(eqGuard op T x y (.slice (some A) n c) (.slice none 0 0)).run P w = .ok () w:=by
   rcases mN with rfl | rfl<;>rfl
  rcases mN with rfl | rfl
  ·have hb:(binOp .eql T (.slice (some A) n c) (.slice none 0 0)).run P w = .ok (.bool false) w:=by
    simp only [binOp];simp [Op.equal,Op.maxDepth,eL]
   simp only [execOp,ho,h1,e2,Sem.run_bind,kz,Result.andThen_ok,if_true,hb,Sem.run_pure]
  ·have hb:(binOp .neq T (.slice (some A) n c) (.slice none 0 0)).run P w = .ok (.bool (!false)) w:=by
    simp only [binOp];simp [Op.equal,Op.maxDepth,eL]
   simp only [execOp,ho,h1,e2,Sem.run_bind,kz,Result.andThen_ok,hb,Sem.run_pure]
   rfl
theorem AS (hE:bT P E) {op:BinOp} {T T':TypeId} {x y:Operand} {X:Ref} {z:Nat} (ho:o.op = .binOp op T x y T') (hn:isNil (ρ y)=true) (hx:∀g v,V g (ρ x) v→V g (.tw X z) v) (hr:FU E op T X z h K=some r):Out P o ρ h K r:=by
 have hd:∀c,o.op≠.defer c:=by rw [ho];intro c e;cases e
 have hy:=E2 hn
 unfold FU at hr
 obtain ⟨hq,hr⟩:=af hr
 split at hr
 ·rename_i e ht
  split at hr
  ·rename_i el Da
   obtain ⟨t,l,hr,hX,fe⟩:=eX hr
   obtain ⟨hz,hr⟩:=af hr
   simp only [zC] at hz
   have UJ:=beq_eq hz.1
   have h0:=aY hz.2
   obtain ⟨hl,hr⟩:=bz hr
   have hl:0<l.length:=hl
   refine .read _ hr (fun S2 hA=>?_) hd
   have dX:=(hA _ (bG hX (.head _))).1.trans fe
   rw [o5 _ hq]
   refine H7 ho (by rw [(hE.dP _ _ ht).u,Da]) (lV hq) hy (fun g w v hI hv=>?_)
   have hv:=hx _ _ hv
   rw [UJ] at hv
   rcases hv.rb hI (by omega) dX with ⟨ad,_,rfl,rfl⟩ | ⟨b,s,cap,d,_,rfl,_⟩
   ·cases hl
   ·exact ⟨_,_,_,rfl⟩
  ·cases hr
 ·cases hr
theorem I9 (hE:bT P E) {op:BinOp} {T T':TypeId} {x y:Operand} (ho:o.op = .binOp op T x y T') (hr:NQ E op T (ρ x) (ρ y) h K=some r):Out P o ρ h K r:=by
 unfold NQ at hr
 split at hr
 ·rename_i X z hx
  cases hn:isNil (ρ y) with
  | true=>
   rw [hn] at hr
   exact AS hE ho hn (fun g v hv=>by rwa [hx] at hv) hr
  | false=>
   rw [hn] at hr
   exact vp hE ho hr
 ·rename_i ri z oo hx
  cases hn:isNil (ρ y) with
  | true=>
   rw [hn] at hr
   rcases iL (show opt oo none (fun j=>FU E op T (.eH ri j) z h K)=some r from hr) with ⟨_,h2⟩ | ⟨j,h1,h2⟩
   ·cases h2
   ·exact AS hE ho hn (fun g v hv=>by
     rw [hx] at hv
     cases hv with
     | os _ _ _ _ _ k1=>exact k1 j h1) h2
  | false=>
   rw [hn] at hr
   exact vp hE ho hr
 ·exact vp hE ho hr
end
set_option linter.unusedVariables false
set_option linter.unusedSimpArgs false
section
open Go.RowKit
section
variable {P:Program} {E:Env} {o:Oper} {ρ:Operand→A} {h:H} {β:Type} {K:A→H→Fp→Option β} {r:β}
structure tZ (P:Program) (f:FuncId) (aa:List A) (h h':H) (T:Fp) (pv:A):Prop where
 out:∀i,touch T i=false→(hp h').ob i=(hp h).ob i∧((hp h').fr i↔(hp h).fr i)
 rd:∀i,wt T i=false→(hp h').ob i=(hp h).ob i∧((hp h').fr i↔(hp h).fr i)
 fn:vG P f
 ok:∀S2,Agree T (hp h) S2→PC P f aa S2 (iU T (hp h') S2) pv
def RC (P:Program) (y:A) (aa:List A) (S S':Hp) (r:A):Prop:=
 ∀g w u (vs:List Value),Inv g S w→V g y u→aa.length=vs.length→(∀(i:Nat) (p:A) (v:Value),aa[i]?=some p→vs[i]?=some v→V g p v) →
  ∃(b:Nat) (rr:Loop),u = .func (.yield b) #[] #[]∧w.heap[b]?=some (.loop rr)∧rr.params.size=vs.length ∧
   RoundIn (FR none) 0 P b rr.fn ((rr.params.zip vs.toArray).foldl (fun tmps (t,a)=>tmps.setIfInBounds t a) rr.tmps) rr.assign rr.body w (fun e w'=>∃v g',e = .returned v∧V g' r v∧Inv g' S' w'∧Ext S g w S' g' w')
structure Ml (P:Program) (y:A) (aa:List A) (h h':H) (T:Fp) (pv:A):Prop where
 out:∀i,touch T i=false→(hp h').ob i=(hp h).ob i∧((hp h').fr i↔(hp h).fr i)
 rd:∀i,wt T i=false→(hp h').ob i=(hp h).ob i∧((hp h').fr i↔(hp h).fr i)
 ok:∀S2,Agree T (hp h) S2→RC P y aa S2 (iU T (hp h') S2) pv
theorem B5 {y:A} {x:Operand} {xs:Array Operand} {ts:Array TypeId} {S S':Hp} {r:A} (ho:o.op = .call { callee:=.value x,args:=xs,argTypes:=ts }) (hx:ρ x=y) (h:RC P y (xs.toList.map ρ) S S' r):C1 P o ρ S S' r:=by
 intro ro g w a next Q hI hv K
 have e1:=hx▸hv x (by simp [ho,Op.operands,Call.operands])
 obtain ⟨b,rr,hu,h1,h2,h3⟩:=h g w (a.eval x) (xs.toList.map a.eval) hI e1 (by simp) (fun i p v k1 k2=>by
  simp only [zL,Option.map_eq_some_iff,Array.getElem?_toList] at k1 k2
  obtain ⟨y,hy,rfl⟩:=k1
  obtain ⟨y',yH,rfl⟩:=k2
  rw [hy] at yH
  obtain rfl:=Option.some.inj yH
  exact hv y (by simp only [ho,Op.operands,Call.operands];exact Array.mem_append.2 (.inr (Array.mem_of_getElem? hy))))
 refine ⟨fun f _=>trivial,?_⟩
 rw [Oper.semAt_eq _ _ _ (by rw [ho];intro c h;cases h)]
 have ea : #[]++Array.map a.eval xs=(xs.toList.map a.eval).toArray:=by apply Array.ext';simp
 have e:(execOp a.eval o).run P w = .ok (.round b rr.fn ((rr.params.zip (xs.toList.map a.eval).toArray).foldl (fun tmps (t,a)=>tmps.setIfInBounds t a) rr.tmps) rr.assign rr.body) w:=by
  simp only [execOp,ho,resolve,hu,Deferred.ofValue,pure_bind,invoke]
  rw [ea]
  exact run_yield h1 (by simp [h2])
 rw [e]
 refine ⟨fun h=>by simp [FR,Fence.wide] at h,RoundIn.mono (F:=FR ro) h3 ?_⟩
 rintro e w' ⟨v,g',rfl,k1,k2,k3⟩
 exact K v g' w' k1 k2 k3
structure Cx where
 call:(β:Type)→FuncId→List A→H→(A→H→Fp→Option β)→Option β
 hm:List (Nat×Nat)
 sH:(β:Type)→A→List A→H→(A→H→Fp→Option β)→Option β
structure lK (P:Program) (cx:Cx):Prop where
 call:∀(β:Type) (f:FuncId) (aa:List A) (h:H) (K:A→H→Fp→Option β) (r:β),cx.call β f aa h K=some r→∃pv h' T,K pv h' T=some r∧tZ P f aa h h' T pv
 sH:∀(β:Type) (y:A) (aa:List A) (h:H) (K:A→H→Fp→Option β) (r:β),cx.sH β y aa h K=some r→∃pv h' T,K pv h' T=some r∧Ml P y aa h h' T pv
def Gn (cx:Cx) (px:A) (aa:List A) (h:H) (K:A→H→Fp→Option β):Option β:=match px with
 | .fn f fi ca=>cx.call β f (fi++aa++ca) h K
 | .sH _ _ _ _ _ _ _=>cx.sH β px aa h K
 | _=>none
theorem Gm {cx:Cx} (hx:lK P cx) {x:Operand} {xs:Array Operand} {ts:Array TypeId} (ho:o.op = .call { callee:=.value x,args:=xs,argTypes:=ts }) (hr:Gn cx (ρ x) (xs.toList.map ρ) h K=some r):Out P o ρ h K r:=by
 have hd:∀c,o.op≠.defer c:=by rw [ho];intro c e;cases e
 unfold Gn at hr
 split at hr
 ·rename_i f fi ca Cs
  obtain ⟨pv,h',T,k1,k2⟩:=hx.call β f _ h K r hr
  exact ⟨pv,h',T,k1,⟨k2.out,k2.rd,fun S2 hA=>(B3 ho k2.fn Cs (k2.ok S2 hA)).LD hd⟩⟩
 ·rename_i Cs
  obtain ⟨pv,h',T,k1,k2⟩:=hx.sH β _ _ h K r hr
  exact ⟨pv,h',T,k1,⟨k2.out,k2.rd,fun S2 hA=>B5 ho Cs (Cs▸k2.ok S2 hA)⟩⟩
 ·cases hr
def z5:Operand→Operand→Bool
 | .tmp i,.tmp j=>Nat.beq i j
 | .const (.int .i64 (.ofNat a)),.const (.int .i64 (.ofNat b))=>Nat.beq a b
 | _,_=>false
theorem v7 {x y:Operand} (h:z5 x y=true):x=y:=by
 unfold z5 at h
 split at h
 ·rw [beq_eq h]
 ·rw [beq_eq h]
 ·cases h
def YH:Operand→Operand→Bool
 | .tmp i,.tmp j=>!(Nat.beq i j)
 | .tmp _,.const _=>true
 | .const _,.tmp _=>true
 | _,_=>false
theorem EE {x y:Operand} (h:YH x y=true):y≠x:=by
 rintro rfl
 cases y<;>simp [YH] at h
def v8:Option Operand→Option Operand→Bool
 | some x,some y=>z5 x y
 | _,_=>false
theorem DN {x y:Option Operand} (h:v8 x y=true):x=y:=by
 unfold v8 at h
 split at h
 ·rw [v7 h]
 ·cases h
def Oj (E:Env) (b:Builtin) (xs:List Operand) (ts:List TypeId) (ρ:Operand→A) (h:H) (K:A→H→Fp→Option β):Option β:=match b,xs,ts with
 | .append,[x,y],[T,T']=>bif Nat.beq T T' then On E T (ρ x) (ρ y) h K else none
 | .len,[x],[T]=>M9 E T (ρ x) h K
 | .min,[x,y],_=>OL false (ρ x) (ρ y) h K
 | .max,[x,y],_=>OL true (ρ x) (ρ y) h K
 | .copy,[x,y],[T,_]=>Gi E T (ρ x) (ρ y) h K
 | .clear,[x],[T]=>Oa E T (ρ x) h K
 | .delete,[x,y],T::_=>EJ E T (ρ x) (ρ y) h K
 | _,_,_=>none
theorem Jo (hE:bT P E) {b:Builtin} {xs:Array Operand} {ts:Array TypeId} (ho:o.op = .call { callee:=.builtin b,args:=xs,argTypes:=ts }) (hr:Oj E b xs.toList ts.toList ρ h K=some r):Out P o ρ h K r:=by
 obtain ⟨xs⟩:=xs
 obtain ⟨ts⟩:=ts
 simp only at hr
 unfold Oj at hr
 split at hr
 ·obtain ⟨hT,hk⟩:=af hr
  clear hr
  obtain rfl:=beq_eq hT
  exact Js hE ho hk
 ·exact It hE ho hr
 ·exact Io ho hr
 ·exact Ip ho hr
 ·exact Gh hE ho hr
 ·exact Ji hE ho hr
 ·exact EI hE ho rfl hr
 ·cases hr
theorem C1.adx {P:Program} {op':Op} {ρ:Operand→A} {S S':Hp} {v:A} (hd:∀c,o.op≠.defer c) (nI:∀c,op'≠.defer c) (hs:∀x∈op'.operands,x∈o.op.operands) (he:∀(g:G) (a:Act),(∀x∈o.op.operands,V g (ρ x) (a.eval x))→execOp a.eval o=execOp a.eval { o with op:=op' }) (h:C1 P { o with op:=op' } ρ S S' v):C1 P o ρ S S' v:=by
 intro r g w a next Q hI hv K
 have h1:=h r g w a next Q hI (fun x hx=>hv x (hs x hx)) K
 refine ⟨fun f _=>trivial,?_⟩
 have h2:=h1.2
 rw [Oper.semAt_eq _ _ _ nI] at h2
 rw [Oper.semAt_eq _ _ _ hd,he g a hv]
 exact h2
def Nd (E:Env) (T:Nat) (X:Ref) (z:Nat) (lo hi mx:Option A) (h:H) (K:A→H→Fp→Option β):Option β:=match cu E.dP T with
 | some ⟨.slice el,_,_,_,_,_,_⟩=>match cu E.dP el with
  | some e=>jL h X (fun t x=>bif Nat.beq z e.size && Nat.beq z t.size && Nat.blt 0 z then CX lo 0 (fun l=>CX hi 0 (fun n=>CX mx 0 (fun m=>gd (bp l n) (gd (bp n m) (gd (bp m (len x)) (K .cG h (.rd [jg X]))))))) else none)
  | none=>none
 | _=>none
theorem Iz (hE:bT P E) {T:Nat} {X:Ref} {z:Nat} {x lo hi mx:Operand} (ho:o.op = .slice T x (some lo) (some hi) (some mx)) (hx:ρ x = .tw X z) (hr:Nd E T X z (some (ρ lo)) (some (ρ hi)) (some (ρ mx)) h K=some r):Out P o ρ h K r:=by
 have hd:∀c,o.op≠.defer c:=by rw [ho];intro c e;cases e
 unfold Nd at hr
 split at hr
 ·rename_i el _ _ _ _ _ _ ht
  have hT:=(hE.dP _ _ ht).u
  split at hr
  ·rename_i e he
   have hz:=(hE.dP _ _ he).ti.size
   obtain ⟨t,x',hr,hX,fe⟩:=eX hr
   obtain ⟨hq,hr⟩:=af hr
   simp only [zC] at hq
   have OR:=beq_eq hq.1.1
   have E9:=beq_eq hq.1.2
   have h0:=aY hq.2
   obtain ⟨l,hr,uX⟩:=kD (x:=some lo) hr
   obtain ⟨n,hr,uY⟩:=kD (x:=some hi) hr
   obtain ⟨m,hr,YW⟩:=kD (x:=some mx) hr
   obtain ⟨h1,hr⟩:=bz hr
   obtain ⟨h2,hr⟩:=bz hr
   obtain ⟨h3,hr⟩:=bz hr
   have h1:l≤n:=h1
   have h2:n≤m:=h2
   have h3:m≤x'.length:=h3
   refine .read [jg X] hr (fun S2 hA=>rK ho hT hz uX uY YW h1 h2 (fun g w v hI hv=>?_)) hd
   have dX:=(hA _ (bG hX (.head _))).1.trans fe
   rw [hx,E9] at hv
   obtain ⟨ad,cap,k1,k2,_,_⟩:=hv.KM (lo:=l) (hi:=n) hI (by omega) dX h1 (by omega)
   exact ⟨ad,_,cap,k1,by omega,.cG _⟩
  ·cases hr
 ·cases hr
def UI:A→Bool
 | .tw _ _=>true
 | _=>false
def My (E:Env) (T:Nat) (px:A) (lo hi mx:Option A) (same:Bool) (h:H) (K:A→H→Fp→Option β):Option β:=bif same then DG E T px lo hi mx true h K else bif UI px && lo.isSome && mx.isSome && hi.isSome then (match px with
 | .tw X z=>Nd E T X z lo hi mx h K
 | _=>none) else (match mx,hi with
 | some (.v (.int k m)),some (.v (.int k' n))=>if k=k' then gd (IE m n) (DG E T px lo hi hi true h K) else none
 | mx,hi=>DG E T px lo hi mx false h K)
theorem Hy (hE:bT P E) {T:Nat} {x:Operand} {lo hi mx:Option Operand} (ho:o.op = .slice T x lo hi mx) (hr:My E T (ρ x) (lo.map ρ) (hi.map ρ) (mx.map ρ) (v8 mx hi) h K=some r):Out P o ρ h K r:=by
 unfold My at hr
 cases hb:v8 mx hi with
 | true=>rw [hb] at hr;exact uh hE ho (fun _=>DN hb) hr
 | false=>
  rw [hb] at hr
  simp only [cond_false] at hr
  cases ht:(UI (ρ x) && (lo.map ρ).isSome && (mx.map ρ).isSome && (hi.map ρ).isSome) with
  | true=>
   rw [ht] at hr
   simp only [cond_true] at hr
   simp only [zC] at ht
   obtain ⟨lo',rfl⟩:=isSome_map ht.1.1.2
   obtain ⟨mx',rfl⟩:=isSome_map ht.1.2
   obtain ⟨L0,rfl⟩:=isSome_map ht.2
   split at hr
   ·rename_i X z hx
    exact Iz hE ho hx hr
   ·cases hr
  | false=>
  rw [ht] at hr
  simp only [cond_false] at hr
  split at hr
  ·rename_i k m k' n hm hn
   split at hr
   ·rename_i hk
    subst hk
    obtain ⟨he,tL⟩:=bz hr
    clear hr
    have he:m=n:=he
    subst he
    cases hi with
    | none=>cases hn
    | some hi=>
    cases mx with
    | none=>cases hm
    | some mx=>
    have hn:ρ hi = .v (.int k m):=Option.some.inj hn
    have hm:ρ mx = .v (.int k m):=Option.some.inj hm
    obtain ⟨pv,h',T',k1,k2⟩:=uh (o:={ o with op:=.slice T x lo (some hi) (some hi) }) hE rfl (fun _=>rfl) tL
    refine ⟨pv,h',T',k1,k2.out,k2.rd,fun S2 hA=>C1.adx (op':=.slice T x lo (some hi) (some hi)) (by rw [ho];intro c e;cases e) (fun c e=>by cases e) (fun y hy=>?_) (fun g a hv=>?_) (k2.ok S2 hA)⟩
    ·rw [ho]
     simp only [Op.operands,Array.mem_append] at hy ⊢
     rcases hy with (hy | hy) | hy
     ·exact .inl (.inl hy)
     ·exact .inl (.inr hy)
     ·exact .inl (.inr hy)
    ·have e1:=hv mx (by rw [ho];simp [Op.operands])
     have e2:=hv hi (by rw [ho];simp [Op.operands])
     rw [hm] at e1
     rw [hn] at e2
     have e3:=e1.gw.trans e2.gw.symm
     simp only [execOp,ho,Option.map_some,e3]
   ·cases hr
  ·exact uh hE ho (fun h=>by cases h) hr
def opK (E:Env) (cx:Cx) (op:Op) (ρ:Operand→A) (h:H) (K:A→H→Fp→Option β):Option β:=match op with
 | .move x=>mvK (ρ x) h K
 | .assign x=>mvK (ρ x) h K
 | .pick c x y=>Ej (ρ c) (ρ x) (ρ y) h K
 | .extract x i=>NP (ρ x) i h K
 | .binOp op T x y _=>NQ E op T (ρ x) (ρ y) h K
 | .unOp op _ x=>Zl op (ρ x) h K
 | .convert s d x=>cvK E s d (ρ x) h K
 | .nilCheck x=>Us (ρ x) h K
 | .fieldAddr T x f=>NK E T f (ρ x) h K
 | .field T x f=>fvK E T f (ρ x) h K
 | .indexAddr T x y=>ixK E T (ρ x) y (ρ y) h K
 | .load T x=>Na E T (ρ x) h K
 | .store T x y=>Z4 E T (ρ x) (ρ y) h K
 | .alloc T=>Oo E cx.hm T h K
 | .box T x=>Og E cx.hm T (ρ x) h K
 | .build T ps=>Ol E T ρ ps.toList h K
 | .buildSlice T n ps=>Oh E T n ρ ps.toList h K
 | .makeSlice T x y=>mkK E T (z5 x y) (ρ x) h K
 | .slice T x lo hi mx=>My E T (ρ x) (lo.map ρ) (hi.map ρ) (mx.map ρ) (v8 mx hi) h K
 | .makeFunc (.func f) fi ca=>Uw f (fi.toList.map ρ) (ca.toList.map ρ) h K
 | .makeMap _ none=>Uv h K
 | .lookup T x y ok=>M8 E T ok (ρ x) (ρ y) h K
 | .mapUpdate T x y z=>An E T false (YH y z) (ρ x) (ρ y) (ρ z) h K
 | .insert T x y z=>An E T true (YH y z) (ρ x) (ρ y) (ρ z) h K
 | .call c=>match c.callee with
  | .value x=>Gn cx (ρ x) (c.args.toList.map ρ) h K
  | .builtin b=>Oj E b c.args.toList c.argTypes.toList ρ h K
  | _=>none
 | _=>none
theorem M1 (hE:bT P E) {cx:Cx} (hx:lK P cx) (hr:opK E cx o.op ρ h K=some r):Out P o ρ h K r:=by
 generalize ho:o.op=op at hr
 have nd:∀{op:Op},o.op=op→(∀c,op≠.defer c)→∀c,o.op≠.defer c:=fun e k=>by rw [e];exact k
 unfold opK at hr
 split at hr
 ·exact .pure hr (fun S2=>wD ho) (nd ho (fun c e=>by cases e))
 ·exact .pure hr (fun S2=>yq ho) (nd ho (fun c e=>by cases e))
 ·exact Ei ho hr
 ·exact I8 ho hr
 ·exact I9 hE ho hr
 ·exact Mt ho hr
 ·exact N1 hE ho hr
 ·exact Ik ho hr
 ·exact I2 hE ho hr
 ·exact NF hE ho hr
 ·exact Nf hE ho hr
 ·exact M_ hE ho hr
 ·exact Mx hE ho hr
 ·exact Jv hE ho hr
 ·exact Jk ho hr
 ·exact Jp hE ho hr
 ·exact Jl hE ho hr
 ·exact M5 hE ho v7 hr
 ·exact Hy hE ho hr
 ·exact Ir ho hr
 ·exact Iq ho hr
 ·exact Is hE ho hr
 ·exact wM hE EE (.inl ⟨rfl,ho⟩) hr
 ·exact wM hE EE (.inr ⟨rfl,ho⟩) hr
 ·rename_i c
  obtain ⟨cal,xs,ts⟩:=c
  simp only at hr
  split at hr
  ·exact Gm hx ho hr
  ·exact Jo hE ho hr
  ·cases hr
 ·cases hr
end
end
set_option linter.unusedVariables false
set_option linter.unusedSimpArgs false
section
open Go.RowKit
def Fp.cat (T U:Fp):Fp:=⟨T.all || U.all,T.rs++U.rs,T.w || U.w,T.ws++U.ws⟩
theorem jd (T U:Fp) (i:Nat):touch (T.cat U) i=(touch T i || touch U i):=by
 unfold touch Fp.cat
 simp only [List.any_append]
 cases T.all<;>cases U.all<;>cases T.rs.any (Nat.beq (res i))<;>cases U.rs.any (Nat.beq (res i))<;>rfl
theorem q9 {T U:Fp} {i:Nat} (h:wt (T.cat U) i=false):wt T i=false∧wt U i=false:=by
 have h:((T.w || U.w) && (T.ws++U.ws).any (Nat.beq (res i)))=false:=h
 show (T.w && T.ws.any (Nat.beq (res i)))=false∧(U.w && U.ws.any (Nat.beq (res i)))=false
 rw [List.any_append] at h
 generalize T.ws.any (Nat.beq (res i))=a at h ⊢
 generalize U.ws.any (Nat.beq (res i))=b at h ⊢
 generalize T.w=c at h ⊢
 generalize U.w=d at h ⊢
 revert h
 cases a<;>cases b<;>cases c<;>cases d<;>decide
theorem Fp.jr (T U V:Fp):(T.cat U).cat V=T.cat (U.cat V):=by
 unfold Fp.cat
 simp [Bool.or_assoc]
theorem Fp.p_ (T:Fp):Fp.no.cat T=T:=by cases T;rfl
theorem Fp.qk (T:Fp):T.cat .no=T:=by cases T;simp [Fp.cat,Fp.no]
structure nM (h h':H) (T:Fp):Prop where
 out:∀i,touch T i=false→(hp h').ob i=(hp h).ob i∧((hp h').fr i↔(hp h).fr i)
 rd:∀i,wt T i=false→(hp h').ob i=(hp h).ob i∧((hp h').fr i↔(hp h).fr i)
theorem nM.refl (h:H):nM h h .no:=⟨fun _ _=>⟨rfl,Iff.rfl⟩,fun _ _=>⟨rfl,Iff.rfl⟩⟩
theorem nM.trans {h h1 h2:H} {T U:Fp} (a:nM h h1 T) (b:nM h1 h2 U):nM h h2 (T.cat U) where
 out:=fun i hi=>by
  rw [jd,Bool.or_eq_false_iff] at hi
  have e1:=a.out i hi.1
  have e2:=b.out i hi.2
  exact ⟨e2.1.trans e1.1,e2.2.trans e1.2⟩
 rd:=fun i hi=>by
  obtain ⟨h1,h2⟩:=q9 hi
  have e1:=a.rd i h1
  have e2:=b.rd i h2
  exact ⟨e2.1.trans e1.1,e2.2.trans e1.2⟩
theorem Agree.left {T U:Fp} {S S2:Hp} (h:Agree (T.cat U) S S2):Agree T S S2:=fun i hi=>h i (by rw [jd,hi];rfl)
theorem Agree.right {h h1:H} {T U:Fp} {S2:Hp} (f:nM h h1 T) (k:Agree (T.cat U) (hp h) S2):Agree U (hp h1) (iU T (hp h1) S2):=fun i hi=>by
 show (if touch T i=true then (hp h1).ob i else S2.ob i)=(hp h1).ob i∧((if touch T i=true then (hp h1).fr i else S2.fr i)↔(hp h1).fr i)
 cases ht:touch T i with
 | true=>exact ⟨if_pos rfl,by rw [if_pos rfl]⟩
 | false=>
  have e:=f.out i ht
  have k:=k i (by rw [jd,hi];simp)
  rw [if_neg (by simp),if_neg (by simp)]
  exact ⟨k.1.trans e.1.symm,k.2.trans e.2.symm⟩
theorem fU {h1 h2:H} {T U:Fp} {S2:Hp} (f:nM h1 h2 U):iU U (hp h2) (iU T (hp h1) S2)=iU (T.cat U) (hp h2) S2:=by
 refine Hp.ext' (fun i=>?_) (fun i=>?_)
 ·show (if touch U i=true then (hp h2).ob i else (if touch T i=true then (hp h1).ob i else S2.ob i))=(if touch (T.cat U) i=true then (hp h2).ob i else S2.ob i)
  rw [jd]
  cases hu:touch U i with
  | true=>simp
  | false=>
   cases ht:touch T i with
   | true=>simp [(f.out i hu).1]
   | false=>simp
 ·show (if touch U i=true then (hp h2).fr i else (if touch T i=true then (hp h1).fr i else S2.fr i))↔(if touch (T.cat U) i=true then (hp h2).fr i else S2.fr i)
  rw [jd]
  cases hu:touch U i with
  | true=>simp
  | false=>
   cases ht:touch T i with
   | true=>simp [(f.out i hu).2]
   | false=>simp
theorem qU {h h':H} {T:Fp} (f:nM h h' T):iU T (hp h') (hp h)=hp h':=Hp.ext' (fun i=>by
 show (if touch T i=true then _ else _)=_
 split
 ·rfl
 ·rename_i hi;exact (f.out i (by simpa using hi)).1.symm) (fun i=>by
 show (if touch T i=true then _ else _)↔_
 split
 ·exact Iff.rfl
 ·rename_i hi;exact (f.out i (by simpa using hi)).2.symm)
theorem pY (S S2:Hp):iU .no S S2=S2:=Hp.ext' (fun i=>rfl) (fun i=>Iff.rfl)
def fp (n:Nat) (F:Tr A) (ds:List Nat) (S:Hp):St:=⟨aX F.get,n,ds,S⟩
def Aj (n:Nat) (F:Tr A):Operand→A
 | .tmp i=>bif Nat.blt i n then aX F.get i else .cG
 | .const v=>.v v
 | .global _=>.cG
 | .func f=>.fn f [] []
theorem yw {a b:Nat} (h:a<b):Nat.blt a b=true:=by simpa using h
theorem uG {a b:Nat} (h:¬a<b):Nat.blt a b=false:=by
 cases hx:Nat.blt a b with
 | false=>rfl
 | true=>exact absurd (aY hx) h
theorem pZ (n:Nat) (F:Tr A) (ds:List Nat) (S:Hp):Aj n F=(fp n F ds S).vK 0:=by
 funext x
 cases x with
 | tmp i=>
  show (bif Nat.blt i n then aX F.get i else .cG)=(if i<n then aX F.get i else .cG)
  by_cases h:i<n
  ·rw [if_pos h,yw h];rfl
  ·rw [if_neg h,uG h];rfl
 | _=>rfl
def fcV {β:Type} (v:Value) (k:Value→β):β:=match v with
 | .int a n=>k (.int a n)
 | .bool b=>k (.bool b)
 | v=>k v
theorem NN {β:Type} (v:Value) (k:Value→β):fcV v k=k v:=by unfold fcV;split<;>rfl
def Y8 {β:Type} (p:A) (k:A→β):β:=match p with
 | .v x=>fcV x (fun x=>k (.v x))
 | .ptr o off=>k (.ptr o off)
 | .tp x π=>k (.tp x π)
 | .tw x z=>k (.tw x z)
 | .tl t f l=>k (.tl t f l)
 | .op r o=>k (.op r o)
 | p=>k p
theorem FP {β:Type} (p:A) (k:A→β):Y8 p k=k p:=by unfold Y8;split<;>first | exact NN _ _ | rfl
def NO {β:Type}:List A→(List A→β)→β
 | [],k=>k []
 | c::cs,k=>Y8 c (fun c=>NO cs (fun cs=>k (c::cs)))
theorem si {β:Type}:∀(l:List A) (k:List A→β),NO l k=k l
 | [],_=>rfl
 | c::cs,k=>by unfold NO;rw [FP];exact si cs _
def O1 {β:Type} (p:A) (k:A→β):β:=match p with
 | .agg cs=>NO cs (fun cs=>k (.agg cs))
 | .jy cs=>NO cs (fun cs=>k (.jy cs))
 | .fn f fi ca=>NO fi (fun fi=>NO ca (fun ca=>k (.fn f fi ca)))
 | p=>Y8 p k
theorem y0 {β:Type} (p:A) (k:A→β):O1 p k=k p:=by
 unfold O1
 split
 ·exact si _ _
 ·exact si _ _
 ·rw [si,si]
 ·exact FP _ _
def ux {β:Type} (F:Tr A) (d:Option Nat) (p:A) (k:Tr A→Option β):Option β:=match d with
 | none=>k F
 | some d=>O1 p (fun p=>fg F d (some p) k)
def Kp (l:List Nat) (F F':Tr A):Prop:=∀i,i∉l→aX F'.get i=aX F.get i
theorem Kp.refl (l:List Nat) (F:Tr A):Kp l F F:=fun _ _=>rfl
theorem Kp.trans {l k m:List Nat} {F F1 F2:Tr A} (a:Kp l F F1) (b:Kp k F1 F2) (hl:∀i∈l,i∈m) (hk:∀i∈k,i∈m):Kp m F F2:=fun i hi=>(b i (fun h=>hi (hk i h))).trans (a i (fun h=>hi (hl i h)))
theorem Kp.mono {l m:List Nat} {F F1:Tr A} (a:Kp l F F1) (hl:∀i∈l,i∈m):Kp m F F1:=fun i hi=>a i (fun h=>hi (hl i h))
theorem Kp.of {l:List Nat} {n:Nat} {F F':Tr A} (h:∀ds S,fp n F' ds S=fp n F ds S):Kp l F F':=fun i _=>congrFun (congrArg St.t (h [] ⟨fun _=>none,fun _=>False⟩)) i
theorem qT {β:Type} {F:Tr A} {d:Option Nat} {p:A} {k:Tr A→Option β} {r:β} (h:ux F d p k=some r):∃F',k F'=some r∧Kp d.toList F F'∧∀(n:Nat) (ds:List Nat) (S S':Hp),((fp n F ds S).put d p).to S'=fp n F' ds S':=by
 cases d with
 | none=>exact ⟨F,h,.refl _ F,fun n ds S S'=>rfl⟩
 | some d=>
  have h:O1 p (fun p=>fg F d (some p) k)=some r:=h
  rw [y0] at h
  obtain ⟨_,F',k1,k2⟩:=bo h
  refine ⟨F',k1,fun i hi=>by
   simp only [aX,k2]
   rw [if_neg (fun e=>hi (by rw [e];exact .head _))],fun n ds S S'=>?_⟩
  have e:(fun i=>if i=d then p else aX F.get i)=aX F'.get:=by
   funext i
   simp only [aX,k2]
   by_cases hi:i=d
   ·rw [if_pos hi,if_pos hi]
   ·rw [if_neg hi,if_neg hi]
  simp only [St.put,St.to,fp,e]
def IY {β:Type} (l0:List Oper) (n:Nat) (F:Tr A) (j:Nat) (want:Bool) (k:Tr A→Bool→Option β):Option β:=match (l0[j]?).bind (·.dst) with
 | some d=>match Aj n F (.tmp d) with
  | .v (.bool b)=>br b (fg F d (some (.v (.bool true))) (fun F'=>k F' want)) (fg F d (some (.v (.bool false))) (fun F'=>k F' (!want)))
  | .un=>k F false
  | _=>none
 | none=>none
theorem Ai {n:Nat} {F:Tr A} {d:Nat} {p:A} (h:Aj n F (.tmp d)=p) (hp:p≠.cG):aX F.get d=p:=by
 have h:(bif Nat.blt d n then aX F.get d else .cG)=p:=h
 cases hb:Nat.blt d n with
 | true=>rw [hb] at h;exact h
 | false=>rw [hb] at h;exact absurd h.symm hp
theorem AL {β:Type} {l0:List Oper} {n:Nat} {F:Tr A} {j:Nat} {want:Bool} {k:Tr A→Bool→Option β} {r:β} (h:IY l0 n F j want k=some r):∃F' b,k F' b=some r∧(∀ds S,fp n F' ds S=fp n F ds S)∧∀ds S,mP l0.toArray (fp n F ds S) j want=some b:=by
 unfold IY at h
 split at h
 ·rename_i d hd
  have gv:∀(b:Bool) (ds:List Nat) (S:Hp),((match Aj n F (.tmp d) with | .v (.bool b)=>some (b == want) | .un=>some false | _=>none):Option Bool)=some b→mP l0.toArray (fp n F ds S) j want=some b:=fun b ds S hb=>by
   unfold mP
   rw [List.getElem?_toArray,←pZ,hd]
   exact hb
  split at h
  ·rename_i b hb
   have same:∀(F':Tr A) (c:Bool),b=c→F'.get=(fun m=>if m=d then some (.v (.bool c)) else F.get m)→∀ds S,fp n F' ds S=fp n F ds S:=fun F' c hc e ds S=>by
    have:aX F'.get=aX F.get:=by
     funext i
     by_cases hi:i=d
     ·subst hi
      rw [Ai hb (by intro h;cases h),hc]
      unfold aX
      rw [e];simp
     ·unfold aX
      rw [e];simp [hi]
    unfold fp
    rw [this]
   rcases la h with ⟨rfl,h1⟩ | ⟨rfl,h1⟩
   ·obtain ⟨_,F',k1,k2⟩:=bo h1
    exact ⟨F',want,k1,same F' true rfl k2,fun ds S=>gv _ ds S (by rw [hb];cases want<;>rfl)⟩
   ·obtain ⟨_,F',k1,k2⟩:=bo h1
    exact ⟨F',!want,k1,same F' false rfl k2,fun ds S=>gv _ ds S (by rw [hb];cases want<;>rfl)⟩
  ·rename_i hb
   exact ⟨F,false,h,fun ds S=>rfl,fun ds S=>gv _ ds S (by rw [hb])⟩
  ·cases h
 ·cases h
def Ih (p:A):A:=match p with
 | .op r (some j)=>.tp (.eH r j) []
 | .op _ none=>.v (.pointer none)
 | .os r z (some j)=>.tw (.eH r j) z
 | .os _ _ none=>.e0
 | .om r (some j)=>.mp (.eH r j)
 | .om _ none=>.v (.map none)
 | p=>p
theorem Ig {p:A} {g:G} {v:Value} (h:V g p v):V g (Ih p) v:=by
 unfold Ih
 split
 ·cases h with | op _ _ _ _ h1=>exact h1 _ rfl
 ·cases h with | op _ _ _ h0 _=>rw [h0 rfl];exact .v _
 ·cases h with | os _ _ _ _ _ h1=>exact h1 _ rfl
 ·cases h with | os _ _ _ _ h0 _=>exact h0 rfl
 ·cases h with | om _ _ _ _ h1=>exact h1 _ rfl
 ·cases h with | om _ _ _ h0 _=>rw [h0 rfl];exact .v _
 ·exact h
def opn (n:Nat) (F:Tr A) (l:List Nat) (x:Operand):A:=match x with
 | .tmp i=>bif l.any (Nat.beq i) then Ih (Aj n F (.tmp i)) else Aj n F (.tmp i)
 | x=>Aj n F x
theorem MY {n:Nat} {F:Tr A} {l:List Nat} {x:Operand} {g:G} {v:Value} (h:V g (Aj n F x) v):V g (opn n F l x) v:=by
 cases x with
 | tmp i=>
  show V g (bif l.any (Nat.beq i) then Ih (Aj n F (.tmp i)) else Aj n F (.tmp i)) v
  cases l.any (Nat.beq i) with
  | true=>exact Ig h
  | false=>exact h
 | _=>exact h
def rm {β:Type}:List Nat→Tr A→(Tr A→Option β)→Option β
 | [],F,k=>k F
 | i::l,F,k=>match aX F.get i with
  | .op r v=>opt v (fg F i (some (.op r none)) (fun F=>rm l F k)) (fun j=>fg F i (some (.op r (some j))) (fun F=>rm l F k))
  | .os r z v=>opt v (fg F i (some (.os r z none)) (fun F=>rm l F k)) (fun j=>fg F i (some (.os r z (some j))) (fun F=>rm l F k))
  | .om r v=>opt v (fg F i (some (.om r none)) (fun F=>rm l F k)) (fun j=>fg F i (some (.om r (some j))) (fun F=>rm l F k))
  | _=>rm l F k
theorem ug {β:Type} {r:β}:∀(l:List Nat) (F:Tr A) (k:Tr A→Option β),rm l F k=some r→∃F',k F'=some r∧aX F'.get=aX F.get
 | [],F,k,h=>⟨F,h,rfl⟩
 | i::l,F,k,h=>by
  have same:∀(p:A),aX F.get i=p→fg F i (some p) (fun F=>rm l F k)=some r→∃F',k F'=some r∧aX F'.get=aX F.get:=fun p hp h=>by
   obtain ⟨_,F1,k1,k2⟩:=bo h
   obtain ⟨F2,k3,k4⟩:=ug l F1 k k1
   refine ⟨F2,k3,k4.trans ?_⟩
   funext m
   unfold aX at hp ⊢
   rw [k2]
   by_cases hm:m=i
   ·subst hm;simp only [if_true];exact hp.symm
   ·simp only [if_neg hm]
  unfold rm at h
  split at h
  ·rename_i q v hq
   rcases iL h with ⟨e,h1⟩ | ⟨j,e,h1⟩
   ·exact same _ (by rw [hq,e]) h1
   ·exact same _ (by rw [hq,e]) h1
  ·rename_i q z v hq
   rcases iL h with ⟨e,h1⟩ | ⟨j,e,h1⟩
   ·exact same _ (by rw [hq,e]) h1
   ·exact same _ (by rw [hq,e]) h1
  ·rename_i q v hq
   rcases iL h with ⟨e,h1⟩ | ⟨j,e,h1⟩
   ·exact same _ (by rw [hq,e]) h1
   ·exact same _ (by rw [hq,e]) h1
  ·exact ug l F k h
def sN (x:Operand):List Nat:=match x with
 | .tmp i=>[i]
 | _=>[]
def SS (op:Op):List Nat:=match op with
 | .fieldAddr _ x _=>sN x
 | .indexAddr _ x _=>sN x
 | .load _ x=>sN x
 | .store _ x _=>sN x
 | .slice _ x _ _ _=>sN x
 | .lookup _ x _ _=>sN x
 | .mapUpdate _ x _ _=>sN x
 | .insert _ x _ _=>sN x
 | .nilCheck x=>sN x
 | .call c=>match c.callee with
  | .builtin _=>c.args.toList.flatMap sN
  | _=>[]
 | _=>[]
section
variable {P:Program} {E:Env} {cx:Cx} {n:Nat} {β:Type} {r:β}
def MZ (E:Env) (cx:Cx) (n:Nat) (op:Op) (F:Tr A) (h:H) (K:Tr A→A→H→Fp→Option β):Option β:=
 rm (SS op) F (fun F'=>opK E cx op (opn n F' (SS op)) h (fun pv h' T=>K F' pv h' T))
theorem Ev (hE:bT P E) (hx:lK P cx) {o:Oper} {F:Tr A} {h:H} {K:Tr A→A→H→Fp→Option β} (hr:MZ E cx n o.op F h K=some r) :
  ∃F',(∀ds S,fp n F' ds S=fp n F ds S)∧∃pv h' T,K F' pv h' T=some r∧Step P o (Aj n F') h h' T pv:=by
 obtain ⟨F',h1,h2⟩:=ug _ _ _ hr
 obtain ⟨pv,h',T,k1,k2⟩:=M1 hE hx h1
 refine ⟨F',fun ds S=>by unfold fp;rw [h2],pv,h',T,k1,k2.out,k2.rd,fun S2 hA r g w a next Q hI hv=>k2.ok S2 hA r g w a next Q hI (fun x hx=>MY (hv x hx))⟩
def qQ (l:List Oper):List Nat:=l.flatMap fun o=>o.dst.toList
def wk (E:Env) (cx:Cx) (n:Nat) (l0:List Oper):List Oper→Tr A→H→Fp→(Tr A→H→Fp→Option β)→Option β
 | [],F,h,U,K=>K F h U
 | o::l,F,h,U,K=>match o.guard with
  | none=>MZ E cx n o.op F h (fun F pv h' T=>ux F o.dst pv (fun F'=>wk E cx n l0 l F' h' (U.cat T) K))
  | some (j,want)=>IY l0 n F j want (fun F b=>bif b then MZ E cx n o.op F h (fun F pv h' T=>ux F o.dst pv (fun F'=>wk E cx n l0 l F' h' (U.cat T) K)) else ux F o.dst .un (fun F'=>wk E cx n l0 l F' h U K))
def GN (F:Tr A) (h:H) (F':Tr A) (h':H) (n:Nat) (T:Fp) (W:(Exit→St→Prop)→St→Prop) (e:Exit) (ds jF:List Nat):Prop:=
 ∀S2,Agree T (hp h) S2→∀Q:Exit→St→Prop,Q e (fp n F' jF (iU T (hp h') S2))→W Q (fp n F ds S2)
theorem um (hE:bT P E) (hx:lK P cx) {l0:List Oper}:∀(l:List Oper) (F:Tr A) (h:H) (U:Fp) (K:Tr A→H→Fp→Option β),wk E cx n l0 l F h U K=some r →
  ∃F' h' T,K F' h' (U.cat T)=some r∧Kp (qQ l) F F'∧nM h h' T∧∀ro S0 g0 w0 ds,GN F h F' h' n T (fun Q st=>D6 P ro S0 g0 w0 l0.toArray Q l st) .normal ds ds
 | [],F,h,U,K,hr=>⟨F,h,.no,by rw [Fp.qk];exact hr,.refl _ F,.refl h,fun ro S0 g0 w0 ds S2 hA Q hq=>by
   rw [pY] at hq;exact HJ hq⟩
 | o::l,F,h,U,K,hr=>by
  have yes:∀(F:Tr A),MZ E cx n o.op F h (fun F pv h' T=>ux F o.dst pv (fun F'=>wk E cx n l0 l F' h' (U.cat T) K))=some r →
    (∀ds S,o.guard=none∨∃j want,o.guard=some (j,want)∧mP l0.toArray (fp n F ds S) j want=some true) →
    ∃F' h' T,K F' h' (U.cat T)=some r∧Kp (qQ (o::l)) F F'∧nM h h' T∧∀ro S0 g0 w0 ds,GN F h F' h' n T (fun Q st=>D6 P ro S0 g0 w0 l0.toArray Q (o::l) st) .normal ds ds:=fun F hr hg=>by
   obtain ⟨F0,e0,pv,h1,T1,k1,k2⟩:=Ev hE hx hr
   obtain ⟨F1,k3,Nb,k4⟩:=qT k1
   obtain ⟨F2,h2,T2,k5,kp2,k6,k7⟩:=um hE hx l F1 h1 (U.cat T1) K k3
   have f1:nM h h1 T1:=⟨k2.out,k2.rd⟩
   have hg:∀ds S,o.guard=none∨∃j want,o.guard=some (j,want)∧mP l0.toArray (fp n F0 ds S) j want=some true:=fun ds S=>by rw [e0];exact hg ds S
   refine ⟨F2,h2,T1.cat T2,by rw [←Fp.jr];exact k5,(Kp.of (l:=[]) e0).trans (m:=qQ (o::l)) (Nb.trans kp2 (fun i hi=>zQ _ hi) (fun i hi=>zS _ hi)) (fun i hi=>by cases hi) (fun i hi=>hi),f1.trans k6,fun ro S0 g0 w0 ds S2 hA Q hq=>?_⟩
   rw [←e0]
   have mN:C1 P o ((fp n F0 ds S2).vK 0) (fp n F0 ds S2).S (iU T1 (hp h1) S2) pv:=by rw [←pZ];exact k2.ok S2 hA.left
   have LV:D6 P ro S0 g0 w0 l0.toArray Q l (((fp n F0 ds S2).put o.dst pv).to (iU T1 (hp h1) S2)):=by
    rw [k4]
    refine k7 ro S0 g0 w0 ds _ (Agree.right f1 hA) Q ?_
    rw [fU k6];exact hq
   rcases hg ds S2 with hg | ⟨j,want,hg,hv⟩
   ·exact wu 0 hg mN LV
   ·exact uo 0 hg hv mN LV
  unfold wk at hr
  split at hr
  ·rename_i hg
   exact yes F hr (fun _ _=>.inl hg)
  ·rename_i j want hg
   obtain ⟨F1,b,k1,k2,k3⟩:=AL hr
   cases b with
   | true=>
    simp only [cond_true] at k1
    obtain ⟨F',h',T,q1,qp,q2,q3⟩:=yes F1 k1 (fun ds S=>.inr ⟨j,want,hg,by rw [k2];exact k3 ds S⟩)
    refine ⟨F',h',T,q1,(Kp.of (l:=[]) k2).trans qp (fun i hi=>by cases hi) (fun i hi=>hi),q2,fun ro S0 g0 w0 ds S2 hA Q hq=>?_⟩
    rw [←k2]
    exact q3 ro S0 g0 w0 ds S2 hA Q hq
   | false=>
    simp only [cond_false] at k1
    obtain ⟨F2,k4,Nb,k5⟩:=qT k1
    obtain ⟨F',h',T,q1,qp,q2,q3⟩:=um hE hx l F2 h U K k4
    refine ⟨F',h',T,q1,(Kp.of (l:=[]) k2).trans (m:=qQ (o::l)) (Nb.trans qp (fun i hi=>zQ _ hi) (fun i hi=>zS _ hi)) (fun i hi=>by cases hi) (fun i hi=>hi),q2,fun ro S0 g0 w0 ds S2 hA Q hq=>?_⟩
    have:=q3 ro S0 g0 w0 ds S2 hA Q hq
    rw [←k5 n ds S2 S2] at this
    rw [←k2]
    refine wq hg (by rw [k2];exact k3 ds S2) ?_
    rw [←ur (st:=fp n F1 ds S2)]
    exact this
end
end
set_option linter.unusedVariables false
set_option linter.unusedSimpArgs false
section
open Go.RowKit
def iY (kp:Nat→Bool) (i:Nat):Bool:=!(Nat.blt i 16777216) && kp (mq i)
def G.lz (kp:Nat→Bool) (g:G):G:=⟨fun i=>if iY kp i=true then g.bm i else none,g.mem,g.lp⟩
theorem uM (kp:Nat→Bool) (g:G):Le (g.lz kp) g:=⟨fun o p h=>(by
 have h:(if iY kp o=true then g.bm o else none)=some p:=h
 split at h
 ·exact h
 ·cases h),fun _ _ _ h=>h,fun _ _ h=>h⟩
theorem jY {kp:Nat→Bool} {g:G} {i:Nat} (h:iY kp i=true):(g.lz kp).bm i=g.bm i:=if_pos h
theorem EU {kp:Nat→Bool} {g:G} {i:Nat} (h:iY kp i=false):(g.lz kp).bm i=none:=if_neg (by rw [h];simp)
def VK (kp:Nat→Bool) (c:A):Prop:=∀g v,V g c v→V (g.lz kp) c v
def O9 (kp:Nat→Bool):Ob→Prop
 | .cells cs=>∀c∈cs,VK kp c
 | .cX (.map es)=>∀e∈es,VK kp e.1∧VK kp e.2
 | .cX _=>False
def G.join (kp:Nat→Bool) (g0 g:G):G:=⟨fun i=>if iY kp i=true then g0.bm i else g.bm i,g0.mem,g0.lp⟩
theorem Cl (kp:Nat→Bool) (g0 g:G):(G.join kp g0 g).lz kp=g0.lz kp:=by
 unfold G.join G.lz
 congr 1
 funext i
 by_cases h:iY kp i=true
 ·simp only [if_pos h]
 ·simp only [if_neg h]
theorem VK.join {kp:Nat→Bool} {c:A} (h:VK kp c) {g0 g:G} {v:Value} (hv:V g0 c v):V (G.join kp g0 g) c v:=by
 have:=h g0 v hv
 rw [←Cl kp g0 g] at this
 exact this.mono (uM kp _)
def Hp.join (kp:Nat→Bool) (S0 S:Hp):Hp:=⟨fun i=>if iY kp i=true then S0.ob i else S.ob i,fun i=>if iY kp i=true then S0.fr i else S.fr i⟩
theorem m9.conv {g g':G} {w w':World} {b t:Nat} {cs:List A} (h:m9 g w b t cs) (hw:w'.heap[b]?=w.heap[b]?) (hc:∀c∈cs,∀v,V g c v→V g' c v):m9 g' w' b t cs:=by
 obtain ⟨cur,ty,k2,pO,k3⟩:=h
 exact ⟨cur,ty,hw.trans k2,pO,k3.1,fun j c x e1 e2=>⟨hc c (zG e1) _ (k3.2 j c x e1 e2).1,(k3.2 j c x e1 e2).2⟩⟩
theorem FE {kp:Nat→Bool} {g:G} {S S0:Hp} {w:World} (hI:Inv g S w) (h0:∀i,iY kp i=false→S0.ob i=none) (h1:∀i,iY kp i=true→S.ob i=S0.ob i∧(S.fr i↔S0.fr i)) (hk:∀i x,S0.ob i=some x→O9 kp x):Inv (g.lz kp) S0 w:=by
 have kn:∀{i x},S0.ob i=some x→iY kp i=true∧S.ob i=some x:=fun {i x} h=>by
  cases ij:iY kp i with
  | false=>rw [h0 i ij] at h;cases h
  | true=>exact ⟨rfl,(h1 i ij).1.trans h⟩
 have sub:=(uM kp g).bm
 refine ⟨fun o cs h=>?_,fun o x h=>?_,fun o h=>?_,fun o b s h=>hI.lt o b s (sub _ _ h),fun o o' x x' b s s' e1 e2 e3 e4=>hI.inj o o' x x' b s s' (kn e1).2 (kn e2).2 (sub _ _ e3) (sub _ _ e4),hI.mem,fun o b s i x e1 e2=>hI.ly o b s i x (kn e1).2 (sub _ _ e2),hI.lp⟩
 ·obtain ⟨q1,q2⟩:=kn h
  rw [jY q1]
  rcases hI.cells o cs q2 with ⟨k1,k2⟩ | ⟨b,t,k1,k2⟩
  ·exact .inl ⟨k1,k2⟩
  ·exact .inr ⟨b,t,k1,k2.conv rfl (fun c hc v hv=>hk o _ h c hc g v hv)⟩
 ·obtain ⟨q1,q2⟩:=kn h
  obtain ⟨b,s,ob,k1,k2,k3⟩:=hI.cX o x q2
  refine ⟨b,s,ob,by rw [jY q1];exact k1,k2,?_⟩
  have hx:=hk o _ h
  cases x with
  | map es=>
   obtain ⟨jO,clock,e1,e2,e3⟩:=k3
   exact ⟨jO,clock,e1,e2,fun i e q a1 a2=>let hq:=hx q (zG a2);⟨hq.1 g _ (e3 i e q a1 a2).1,hq.2 g _ (e3 i e q a1 a2).2⟩⟩
  | _=>exact hx.elim
 ·cases ij:iY kp o with
  | false=>exact EU ij
  | true=>rw [jY ij];exact hI.fresh o ((h1 o ij).2.2 h)
theorem CA {kp:Nat→Bool} {g FC:G} {S S0 xS:Hp} {w w':World} (hI:Inv g S w) (h0:∀i,iY kp i=false→S0.ob i=none) (h1:∀i,iY kp i=true→S.ob i=S0.ob i∧(S.fr i↔S0.fr i))
  (hk:∀i x,iY kp i=true→xS.ob i=some x→O9 kp x) (Hj:Inv FC xS w') (x0:Ext S0 (g.lz kp) w xS FC w') :
  Inv (G.join kp FC g) (Hp.join kp xS S) w'∧Ext S g w (Hp.join kp xS S) (G.join kp FC g) w':=by
 have ow:∀{k},ml S0 (g.lz kp) k→∃o s x,iY kp o=true∧S.ob o=some x∧g.bm o=some (some k,s):=fun {k} ⟨o,s,x,e1,e2⟩=>by
  cases ij:iY kp o with
  | false=>rw [h0 o ij] at e1;cases e1
  | true=>exact ⟨o,s,x,ij,(h1 o ij).1.trans e1,(uM kp g).bm _ _ e2⟩
 have MX:∀{k},ml S0 (g.lz kp) k→ml S g k:=fun {k} h=>by
  obtain ⟨o,s,x,_,e1,e2⟩:=ow h
  exact ⟨o,s,x,e1,e2⟩
 have other:∀{o x b s},iY kp o=false→S.ob o=some x→g.bm o=some (some b,s)→¬ml S0 (g.lz kp) b:=fun {o x b s} hn e1 e2 h=>by
  obtain ⟨o',s',x',k1,k2,k3⟩:=ow h
  have:=hI.inj o o' x x' b s s' e1 k2 e2 k3
  rw [this,k1] at hn;cases hn
 have ji:∀{i},iY kp i=true→(G.join kp FC g).bm i=FC.bm i∧(Hp.join kp xS S).ob i=xS.ob i∧((Hp.join kp xS S).fr i↔xS.fr i):=fun {i} h=>⟨if_pos h,if_pos h,by show (if iY kp i=true then _ else _)↔_;rw [if_pos h]⟩
 have jo:∀{i},iY kp i=false→(G.join kp FC g).bm i=g.bm i∧(Hp.join kp xS S).ob i=S.ob i∧((Hp.join kp xS S).fr i↔S.fr i):=fun {i} h=>by
  have h':¬iY kp i=true:=by rw [h];simp
  exact ⟨if_neg h',if_neg h',by show (if iY kp i=true then _ else _)↔_;rw [if_neg h']⟩
 have le:Le g (G.join kp FC g):=⟨fun o p e=>(by
  cases ij:iY kp o with
  | true=>rw [(ji ij).1];exact x0.le.bm o p (by rw [jY ij];exact e)
  | false=>rw [(jo ij).1];exact e),x0.le.mem,x0.le.lp⟩
 have heap:∀{o x b s},iY kp o=false→S.ob o=some x→g.bm o=some (some b,s)→w'.heap[b]?=w.heap[b]?:=fun {o x b s} hn e1 e2=>x0.frame b (hI.lt o b s e2) (other hn e1 e2)
 refine ⟨⟨fun o cs h=>?_,fun o x h=>?_,fun o h=>?_,fun o b s h=>?_,fun o o' x x' b s s' e1 e2 e3 e4=>?_,Hj.mem,fun o b s i x e1 e2=>?_,Hj.lp⟩,⟨le,x0.os,x0.tape,x0.output,x0.size,fun k YZ Fm=>x0.frame k YZ (fun h=>Fm (MX h)),fun k h=>?_,fun o p h=>?_,fun o h=>?_,fun b i x h=>?_,fun b l h=>x0.lpo b l h⟩⟩
 ·cases ij:iY kp o with
  | true=>
   rw [(ji ij).2.1] at h
   rw [(ji ij).1]
   rcases Hj.cells o cs h with ⟨k1,k2⟩ | ⟨b,t,k1,k2⟩
   ·exact .inl ⟨k1,k2⟩
   ·exact .inr ⟨b,t,k1,k2.conv rfl (fun c hc v hv=>(hk o _ ij h c hc).join hv)⟩
  | false=>
   rw [(jo ij).2.1] at h
   rw [(jo ij).1]
   rcases hI.cells o cs h with ⟨k1,k2⟩ | ⟨b,t,k1,k2⟩
   ·exact .inl ⟨k1,k2⟩
   ·exact .inr ⟨b,t,k1,k2.conv (heap ij h k1) (fun c hc v hv=>hv.mono le)⟩
 ·cases ij:iY kp o with
  | true=>
   rw [(ji ij).2.1] at h
   rw [(ji ij).1]
   obtain ⟨b,s,ob,k1,k2,k3⟩:=Hj.cX o x h
   refine ⟨b,s,ob,k1,k2,?_⟩
   have hx:=hk o _ ij h
   cases x with
   | map es=>
    obtain ⟨jO,clock,e1,e2,e3⟩:=k3
    exact ⟨jO,clock,e1,e2,fun i e q a1 a2=>let hq:=hx q (zG a2);⟨hq.1.join (e3 i e q a1 a2).1,hq.2.join (e3 i e q a1 a2).2⟩⟩
   | _=>exact hx.elim
  | false=>
   rw [(jo ij).2.1] at h
   rw [(jo ij).1]
   obtain ⟨b,s,ob,k1,k2,k3⟩:=hI.cX o x h
   exact ⟨b,s,ob,k1,(heap ij h k1).trans k2,k3.mono le⟩
 ·cases ij:iY kp o with
  | true=>rw [(ji ij).1];exact Hj.fresh o ((ji ij).2.2.1 h)
  | false=>rw [(jo ij).1];exact hI.fresh o ((jo ij).2.2.1 h)
 ·cases ij:iY kp o with
  | true=>rw [(ji ij).1] at h;exact Hj.lt o b s h
  | false=>rw [(jo ij).1] at h;exact Nat.lt_of_lt_of_le (hI.lt o b s h) x0.size
 ·have mixed:∀{o o' x x' b s s'},iY kp o=true→iY kp o'=false→xS.ob o=some x→S.ob o'=some x'→FC.bm o=some (some b,s)→g.bm o'=some (some b,s')→False:=fun {o o' x x' b s s'} h1 h2 e1 e2 e3 e4=>by
   rcases x0.own b ⟨o,s,x,e1,e3⟩ with h | h
   ·exact other h2 e2 e4 h
   ·have:=hI.lt o' b s' e4;omega
  cases ij:iY kp o with
  | true=>
   rw [(ji ij).2.1] at e1
   rw [(ji ij).1] at e3
   cases r_:iY kp o' with
   | true=>
    rw [(ji r_).2.1] at e2
    rw [(ji r_).1] at e4
    exact Hj.inj o o' x x' b s s' e1 e2 e3 e4
   | false=>
    rw [(jo r_).2.1] at e2
    rw [(jo r_).1] at e4
    exact (mixed ij r_ e1 e2 e3 e4).elim
  | false=>
   rw [(jo ij).2.1] at e1
   rw [(jo ij).1] at e3
   cases r_:iY kp o' with
   | true=>
    rw [(ji r_).2.1] at e2
    rw [(ji r_).1] at e4
    exact (mixed r_ ij e2 e1 e4 e3).elim
   | false=>
    rw [(jo r_).2.1] at e2
    rw [(jo r_).1] at e4
    exact hI.inj o o' x x' b s s' e1 e2 e3 e4
 ·cases ij:iY kp o with
  | true=>
   rw [(ji ij).2.1] at e1
   rw [(ji ij).1] at e2
   exact Hj.ly o b s i x e1 e2
  | false=>
   rw [(jo ij).2.1] at e1
   rw [(jo ij).1] at e2
   show FC.mem b i=none
   cases hm:FC.mem b i with
   | none=>rfl
   | some y=>
    rcases x0.rR b i y hm with h | h | h
    ·have:=hI.ly o b s i x e1 e2
     have h:g.mem b i=some y:=h
     rw [this] at h;cases h
    ·exact absurd h (other ij e1 e2)
    ·have:=hI.lt o b s e2;omega
 ·obtain ⟨o,s,x,e1,e2⟩:=h
  cases ij:iY kp o with
  | true=>
   rw [(ji ij).2.1] at e1
   rw [(ji ij).1] at e2
   rcases x0.own k ⟨o,s,x,e1,e2⟩ with h | h
   ·exact .inl (MX h)
   ·exact .inr h
  | false=>
   rw [(jo ij).2.1] at e1
   rw [(jo ij).1] at e2
   exact .inl ⟨o,s,x,e1,e2⟩
 ·cases ij:iY kp o with
  | true=>
   rw [(ji ij).1] at h
   rcases x0.Jd o p h with h | ⟨h,k⟩
   ·rw [jY ij] at h;exact .inl h
   ·rw [jY ij] at h;exact .inr ⟨h,(h1 o ij).2.2 k⟩
  | false=>rw [(jo ij).1] at h;exact .inl h
 ·cases ij:iY kp o with
  | true=>exact (h1 o ij).2.2 (x0.fr o ((ji ij).2.2.1 h))
  | false=>exact (jo ij).2.2.1 h
 ·rcases x0.rR b i x h with h | h | h
  ·exact .inl h
  ·exact .inr (.inl (MX h))
  ·exact .inr (.inr h)
end
set_option linter.unusedVariables false
set_option linter.unusedSimpArgs false
section
open Go.RowKit
theorem PC.frame {P:Program} {f:FuncId} {kp:Nat→Bool} {aa:List A} {S S0 xS:Hp} {r:A} (h0:∀i,iY kp i=false→S0.ob i=none) (h1:∀i,iY kp i=true→S.ob i=S0.ob i∧(S.fr i↔S0.fr i)) (hk:∀i x,S0.ob i=some x→O9 kp x)
  (Hd:∀i x,iY kp i=true→xS.ob i=some x→O9 kp x) (ha:∀a∈aa,VK kp a) (hr:VK kp r) (h:PC P f aa S0 xS r):PC P f aa S (Hp.join kp xS S) r:=fun g w vs hI hl hv=>by
 refine (h (g.lz kp) w vs (FE hI h0 h1 hk) hl (fun i p v e1 e2=>ha p (zG e1) g v (hv i p v e1 e2))).mono ?_
 rintro e w' ⟨v,g',rfl,k1,k2,k3⟩
 obtain ⟨q1,q2⟩:=CA hI h0 h1 Hd k2 k3
 exact ⟨v,_,rfl,hr.join k1,q1,q2⟩
def qd (kp:Nat→Bool):Ty→Bool
 | .int _=>true
 | .bool=>true
 | .unit=>true
 | .pair a b=>qd kp a && qd kp b
 | .arr _ t=>qd kp t
 | .aF _=>true
 | .ptr r=>Nat.blt r 64 && kp r
 | .cY r=>Nat.blt r 64 && kp r
 | .je r _=>Nat.blt r 64 && kp r
 | .pM r _=>Nat.blt r 64 && kp r
 | .mp r=>Nat.blt r 64 && kp r
theorem uL {kp:Nat→Bool} {r j:Nat} (h:r<64) (hk:kp r=true):iY kp (fE r j)=true:=by
  have h1:=oi r j
  have h2:=lO (j:=j) h
  generalize fE r j=i at h1 h2
  unfold iY
  rw [h2,hk,Bool.and_true]
  cases hx:Nat.blt i 16777216 with
  | false=>rfl
  | true=>
            have:i<16777216:=by simpa using hx
            unfold cI at h1;omega
theorem VK.v {kp:Nat→Bool} (x:Value):VK kp (.v x):=fun g v h=>by cases h;exact .v _
theorem VK.tp {kp:Nat→Bool} {r j:Nat} (h:r<64) (hk:kp r=true):VK kp (.tp (.eH r j) []):=fun g v hv=>by
 cases hv with
 | tp _ _ b s bK hp=>exact .tp _ _ b s (by rw [show (Ref.eH r j).id=fE r j from rfl,jY (uL h hk)];exact bK) hp
theorem VK.tw {kp:Nat→Bool} {r j z:Nat} (h:r<64) (hk:kp r=true):VK kp (.tw (.eH r j) z):=fun g v hv=>by
 have e:(g.lz kp).bm (Ref.eH r j).id=g.bm (Ref.eH r j).id:=jY (uL h hk)
 cases hv with
 | te _ _ ad bK=>exact .te _ _ ad (by rw [e];exact bK)
 | tw _ _ n b cap t bK hn hx hp d hd=>exact .tw _ _ n b cap t (by rw [e];exact bK) hn hx hp d hd
theorem VK.mp {kp:Nat→Bool} {r j:Nat} (h:r<64) (hk:kp r=true):VK kp (.mp (.eH r j)):=fun g v hv=>by
 cases hv with
 | mp _ b s bK=>exact .mp _ b s (by rw [show (Ref.eH r j).id=fE r j from rfl,jY (uL h hk)];exact bK)
theorem VK.tl {kp:Nat→Bool} {t:Ty} {f:Bool} {l:List t.T}:VK kp (.tl t f l):=fun g v hv=>by
 cases hv with
 | tl _ _ _ _ hd=>exact .tl t f l v hd
theorem xd {α β:Type} {f:α→List β} {p:β→Prop} (h:∀x,∀c∈f x,p c) (l:List α):∀c∈l.flatMap f,p c:=fun c hc=>by
 obtain ⟨x,_,hx⟩:=List.mem_flatMap.1 hc
 exact h x c hx
theorem oy {kp:Nat→Bool}:∀(t:Ty) (x:t.T),qd kp t=true→∀c∈aA t x,VK kp c
 | .int k,x,_,c,hc=>by rcases zF.1 hc with rfl;exact .v _
 | .bool,x,_,c,hc=>by rcases zF.1 hc with rfl;exact .v _
 | .unit,x,_,c,hc=>by cases hc
 | .pair a b,x,h,c,hc=>by
  simp only [qd,zC] at h
  rcases zX.1 hc with hc | hc
  ·exact oy a x.1 h.1 c hc
  ·exact oy b x.2 h.2 c hc
 | .arr n t,l,h,c,hc=>xd (f:=fun i=>aA t (nth t.cQ l i)) (fun i c hc=>oy t _ h c hc) _ c hc
 | .aF t,l,_,c,hc=>by rcases zF.1 hc with rfl;exact .tl
 | .ptr r,x,h,c,hc=>by
  simp only [qd,zC] at h
  rcases zF.1 hc with rfl
  intro g v hv
  cases hv with
  | op _ _ _ h0 h1=>exact .op r x v h0 (fun j e=>VK.tp (aY h.1) h.2 g v (h1 j e))
 | .cY r,j,h,c,hc=>by
  simp only [qd,zC] at h
  rcases zF.1 hc with rfl
  exact .tp (aY h.1) h.2
 | .je r z,x,h,c,hc=>by
  simp only [qd,zC] at h
  rcases zF.1 hc with rfl
  intro g v hv
  cases hv with
  | os _ _ _ _ h0 h1=>exact .os r z x v (fun e=>by cases h0 e with | e0 ad=>exact .e0 ad) (fun j e=>VK.tw (aY h.1) h.2 g v (h1 j e))
 | .pM r z,j,h,c,hc=>by
  simp only [qd,zC] at h
  rcases zF.1 hc with rfl
  exact .tw (aY h.1) h.2
 | .mp r,x,h,c,hc=>by
  simp only [qd,zC] at h
  rcases zF.1 hc with rfl
  intro g v hv
  cases hv with
  | om _ _ _ h0 h1=>exact .om r x v h0 (fun j e=>VK.mp (aY h.1) h.2 g v (h1 j e))
theorem VK.agg {kp:Nat→Bool} {cs:List A} (h:∀c∈cs,VK kp c):VK kp (.agg cs):=fun g v hv=>by
 cases hv with
 | agg _ vs hl h1 h2=>exact .agg cs vs hl h1 (fun i c x e1 e2=>h c (zG e1) g x (h2 i c x e1 e2))
theorem VK.jy {kp:Nat→Bool} {cs:List A} (h:∀c∈cs,VK kp c):VK kp (.jy cs):=fun g v hv=>by
 cases hv with
 | jy _ vs hl h2=>exact .jy cs vs hl (fun i c x e1 e2=>h c (zG e1) g x (h2 i c x e1 e2))
theorem VK.cG {kp:Nat→Bool}:VK kp .cG:=fun g v _=>.cG v
theorem VK.pack {kp:Nat→Bool} {a:Bool} {t:Ty} (x:t.T) (h:qd kp t=true):VK kp (bO a t x):=by
 unfold bO
 cases a with
 | true=>exact .agg (oy t x h)
 | false=>
  simp only [cond_false]
  split
  ·rename_i c hc
   exact oy t x h c (by rw [hc];exact .head _)
  ·exact .cG
def RK.qd (kp:Nat→Bool):RK→Bool
 | .box t=>Bm.qd kp t
 | .row t=>Bm.qd kp t
 | .map _ tk _ tv=>Bm.qd kp tk && Bm.qd kp tv
theorem BH {kp:Nat→Bool} {k:RK} {c:k.T} {j:Nat} {x:Ob} (hk:k.qd kp=true) (h:dQ k c j=some x):O9 kp x:=by
 cases k with
 | box t=>
  have h:(match lA (α:=t.T) c j with | some x=>some (Ob.cells (aA t x)) | none=>none)=some x:=h
  split at h
  ·cases h;exact oy t _ hk
  ·cases h
 | row t=>
  have h:(match lA (α:=Option (List t.T)) c j with | some (some l)=>some (Ob.cells (l.flatMap (aA t))) | _=>none)=some x:=h
  split at h
  ·cases h;exact xd (fun y c hc=>oy t y hk c hc) _
  ·cases h
 | map ka tk va tv=>
  have h:(match lA (α:=List (tk.T×tv.T)) c j with | some es=>some (Ob.cX (.map (iE ka tk va tv es))) | none=>none)=some x:=h
  simp only [RK.qd,zC] at hk
  split at h
  ·cases h
   intro e he
   obtain ⟨y,_,rfl⟩:=List.mem_map.1 he
   exact ⟨.pack _ hk.1,.pack _ hk.2⟩
  ·cases h
end
set_option linter.unusedVariables false
set_option linter.unusedSimpArgs false
section
open Go.RowKit
deriving instance DecidableEq for RK
def yi:List A→A
 | [p]=>p
 | ps=>.jy ps
structure da where
 ps:List (Bool×Ty)
 rs:List (Bool×Ty)
 rg:List (Nat×RK)
 wg:List (Nat×RK)
def kG:List (Bool×Ty)→Type
 | []=>Unit
 | p::l=>p.2.T×kG l
def m0:(l:List (Bool×Ty))→kG l→List A
 | [],_=>[]
 | p::l,x=>bO p.1 p.2 x.1::m0 l x.2
def q7:List (Nat×RK)→Type
 | []=>Unit
 | p::l=>p.2.T×q7 l
def dC:(l:List (Nat×RK))→q7 l→List Rg
 | [],_=>[]
 | p::l,x=>⟨p.1,p.2,x.1⟩::dC l x.2
def h0 (rl wl:List (Nat×RK)) (c:q7 rl) (d:q7 wl):H:=⟨.nil,0,dC wl d++dC rl c,[]⟩
def Mu:(l:List (Bool×Ty))→List A→Option (kG l)
 | [],[]=>some ()
 | p::l,a::aa=>match lx p.1 p.2 a,Mu l aa with
  | some x,some y=>some (x,y)
  | _,_=>none
 | _,_=>none
theorem uc:∀(l:List (Bool×Ty)) (aa:List A) (x:kG l),Mu l aa=some x→aa.length=(m0 l x).length∧∀(i:Nat) (a b:A),aa[i]?=some a→(m0 l x)[i]?=some b→∀g v,V g a v→V g b v
 | [],[],x,_=>⟨rfl,fun i a b h=>by simp at h⟩
 | p::l,a::aa,x,h=>by
  simp only [Mu] at h
  split at h
  ·rename_i y z h1 h2
   cases h
   obtain ⟨k1,k2⟩:=uc l aa z h2
   refine ⟨congrArg Nat.succ k1,fun i a' b e1 e2=>?_⟩
   cases i with
   | zero=>
    have e1:a=a':=Option.some.inj e1
    have e2:bO p.1 p.2 y=b:=Option.some.inj e2
    subst e1 e2
    exact fun g v hv=>kq h1 hv
   | succ i=>exact k2 i a' b e1 e2
  ·cases h
 | [],_::_,_,h=>by cases h
 | _::_,[],_,h=>by cases h
def Mh (a b:RK) (c:a.T):Option b.T:=if h:a=b then some (h▸c) else none
def dt (l:List (Nat×RK)) (r:Nat):Bool:=l.any fun p=>Nat.beq p.1 r
def yT:(l:List (Nat×RK))→List Rg→Option (q7 l)
 | [],_=>some ()
 | p::l,rg=>match bq rg p.1,yT l rg with
  | some ⟨_,k,c⟩,some y=>match Mh k p.2 c with
   | some x=>some (x,y)
   | none=>none
  | _,_=>none
theorem z_:∀{rg:List Rg} {r:Nat} {x:Rg},bq rg r=some x→x.r=r
 | y::l,r,x,h=>by
  unfold bq at h
  cases hy:Nat.beq y.r r with
  | true=>rw [hy] at h;cases h;exact beq_eq hy
  | false=>rw [hy] at h;exact z_ h
theorem dS:∀(l:List (Nat×RK)) (c:q7 l) (r:Nat),dt l r=false→bq (dC l c) r=none
 | [],_,_,_=>rfl
 | p::l,c,r,h=>by
  have h:(Nat.beq p.1 r || dt l r)=false:=h
  rw [Bool.or_eq_false_iff] at h
  show (bif Nat.beq p.1 r then _ else _)=_
  rw [h.1]
  exact dS l c.2 r h.2
theorem jM:∀(l:List (Nat×RK)) (c:q7 l) (r:Nat),dt l r=true→∃x,bq (dC l c) r=some x
 | p::l,c,r,h=>by
  show ∃x,(bif Nat.beq p.1 r then some (⟨p.1,p.2,c.1⟩:Rg) else bq (dC l c.2) r)=some x
  cases hq:Nat.beq p.1 r with
  | true=>exact ⟨_,rfl⟩
  | false=>
   have h:(Nat.beq p.1 r || dt l r)=true:=h
   rw [hq,Bool.false_or] at h
   exact jM l c.2 r h
theorem g8:∀(l k:List Rg) (r:Nat),bq (l++k) r=match bq l r with | some x=>some x | none=>bq k r
 | [],k,r=>rfl
 | y::l,k,r=>by
  show (bif Nat.beq y.r r then some y else bq (l++k) r)=match (bif Nat.beq y.r r then some y else bq l r) with | some x=>some x | none=>bq k r
  cases hy:Nat.beq y.r r with
  | true=>rfl
  | false=>exact g8 l k r
theorem lB:∀(l:List (Nat×RK)) (rg:List Rg) (c:q7 l),yT l rg=some c→∀r,dt l r=true→bq (dC l c) r=bq rg r∧∃x,bq rg r=some x
 | [],_,_,_,_,h=>by cases h
 | p::l,rg,c,hg,r,h=>by
  simp only [yT] at hg
  split at hg
  ·rename_i r' k c' y h1 h2
   split at hg
   ·rename_i x hx
    cases hg
    show (bif Nat.beq p.1 r then some (⟨p.1,p.2,x⟩:Rg) else bq (dC l y) r)=_∧_
    cases hp:Nat.beq p.1 r with
    | true=>
     have e:=beq_eq hp
     subst e
     have hr:=z_ h1
     simp only at hr
     subst hr
     unfold Mh at hx
     split at hx
     ·rename_i ek
      obtain ⟨p1,p2⟩:=p
      simp only at ek
      subst ek
      cases hx
      rw [h1]
      exact ⟨rfl,_,rfl⟩
     ·cases hx
    | false=>
     have h:(Nat.beq p.1 r || dt l r)=true:=h
     rw [hp,Bool.false_or] at h
     exact lB l rg y h2 r h
   ·cases hg
  ·cases hg
def VsL (g:G) (aa:List A) (vs:List Value):Prop:=∀(i:Nat) (a:A) (v:Value),aa[i]?=some a→vs[i]?=some v→V g a v
def CvL (h h':H) (T:List Nat) (aa xQ:List A):Prop:=xQ.length=aa.length∧∃us,hp h'=app us (hp h)∧(∀u∈us,touch (.wr T) u.id=true) ∧
 ∀g S w (vs:List Value),Inv g S w→Agree (.wr T) (hp h) S→aa.length=vs.length→VsL g aa vs→∃g',Inv g' (app us S) w∧Ext S g w (app us S) g' w∧VsL g' xQ vs
def FK (a:Bool) (t:Ty) (p:A) (h:H):Option (A×H×List Nat):=bif a then (match p with
 | .agg cs=>match fixC 20 t cs h with
  | some (cs',h',T)=>some (.agg cs',h',T)
  | none=>none
 | _=>none) else bif yF p then none else (match p.cells with
 | some [c]=>match fixC 20 t [c] h with
  | some ([c'],h',T)=>some (c',h',T)
  | _=>none
 | _=>none)
def CE:List (Bool×Ty)→List A→H→Option (List A×H×List Nat)
 | [],[],h=>some ([],h,[])
 | p::l,a::aa,h=>match FK p.1 p.2 a h with
  | some (a',h1,T1)=>match CE l aa h1 with
   | some (xQ,h2,T2)=>some (a'::xQ,h2,T1++T2)
   | none=>none
  | none=>none
 | _,_,_=>none
theorem CU {p c:A} (ha:yF p=false) (h:p.cells=some [c]):c=p:=by
 unfold A.cells at h
 split at h
 ·cases ha
 ·rename_i x
  cases hx:x.oneCell' with
  | true=>rw [hx] at h;simp at h;exact h.symm
  | false=>rw [hx] at h;cases h
 ·cases h
 ·cases h
 ·cases h
 ·simp at h;exact h.symm
theorem vf {a:Bool} {t:Ty} {p p':A} {h h':H} {T:List Nat} (hf:FK a t p h=some (p',h',T)):∃us,hp h'=app us (hp h)∧(∀u∈us,touch (.wr T) u.id=true)∧∀g S w (v:Value),Inv g S w→Agree (.wr T) (hp h) S→V g p v→∃g',Inv g' (app us S) w∧Ext S g w (app us S) g' w∧V g' p' v:=by
 unfold FK at hf
 cases a with
 | true=>
  simp only [cond_true] at hf
  split at hf
  ·rename_i cs
   split at hf
   ·rename_i cs' h1 T1 hc
    simp only [zI,zU] at hf
    obtain ⟨rfl,rfl,rfl⟩:=hf
    obtain ⟨us,c1,c2,c3⟩:=pr _ _ _ _ _ _ _ hc
    refine ⟨us,c1,c2,fun g S w v hI hA hv=>?_⟩
    cases hv with
    | agg _ vs hl h1 hh=>
     obtain ⟨g',q1,q2,q3⟩:=c3 g S w vs.toList hI hA ⟨by simpa using hl,fun j c x e1 e2=>⟨hh j c x e1 (by simpa using e2),h1 x (zG e2)⟩⟩
     exact ⟨g',q1,q2,by have:=q3.agg;simpa using this⟩
   ·cases hf
  ·cases hf
 | false=>
  simp only [cond_false] at hf
  obtain ⟨ha,hf⟩:=jH hf
  split at hf
  ·rename_i c hc
   split at hf
   ·rename_i c' h1 T1 IP
    simp only [zI,zU] at hf
    obtain ⟨rfl,rfl,rfl⟩:=hf
    obtain ⟨us,c1,c2,c3⟩:=pr _ _ _ _ _ _ _ IP
    obtain rfl:=CU ha hc
    refine ⟨us,c1,c2,fun g S w v hI hA hv=>?_⟩
    obtain ⟨g',q1,q2,q3⟩:=c3 g S w [v] hI hA ⟨rfl,fun j c x e1 e2=>by
     cases j with
     | zero=>simp at e1 e2;subst e1 e2;exact ⟨hv,hv.sc1 ha hc⟩
     | succ j=>simp at e1⟩
    exact ⟨g',q1,q2,(q3.2 0 _ v rfl rfl).1⟩
   ·cases hf
  ·cases hf
theorem ve:∀{l:List (Bool×Ty)} {aa xQ:List A} {h h':H} {T:List Nat},CE l aa h=some (xQ,h',T)→CvL h h' T aa xQ
 | [],[],xQ,h,h',T,hf=>by
  simp only [CE,zI,zU] at hf
  obtain ⟨rfl,rfl,rfl⟩:=hf
  exact ⟨rfl,[],rfl,fun u hu=>(by simp at hu),fun g S w vs hI _ _ hv=>⟨g,hI,.refl S g w,hv⟩⟩
 | p::l,a::aa,xQ,h,h',T,hf=>by
  simp only [CE] at hf
  split at hf
  ·rename_i a1 h1 T1 Nv
   split at hf
   ·rename_i as1 h2 T2 Fq
    simp only [zI,zU] at hf
    obtain ⟨rfl,rfl,rfl⟩:=hf
    obtain ⟨us,c1,c2,c3⟩:=vf Nv
    obtain ⟨hl,vs2,d1,d2,d3⟩:=ve Fq
    refine ⟨by simp [hl],us++vs2,by rw [iS,←c1,d1],fun u hu=>?_,fun g S w vs hI hA hlen hv=>?_⟩
    ·rcases zX.1 hu with h | h
     ·exact ff (fun i hi=>zQ _ hi) (c2 u h)
     ·exact ff (fun i hi=>zS _ hi) (d2 u h)
    ·have IV:Agree (.wr T1) (hp h) S:=hA.mono fun i hi=>zQ _ hi
     have yQ:Agree (.wr T2) (hp h1) (app us S):=by rw [c1];exact (hA.mono (fun i hi=>zS _ hi)).app us
     cases vs with
     | nil=>simp at hlen
     | cons v vs=>
      obtain ⟨g',q1,q2,q3⟩:=c3 g S w v hI IV (hv 0 a v rfl rfl)
      obtain ⟨g2,z1,z2,z3⟩:=d3 g' _ w vs q1 yQ (by simpa using hlen) (fun i a v e1 e2=>(hv (i+1) a v (by simpa using e1) (by simpa using e2)).mono q2.le)
      rw [iS]
      refine ⟨g2,z1,q2.trans z2,fun i a v e1 e2=>?_⟩
      cases i with
      | zero=>simp at e1 e2;subst e1 e2;exact q3.mono z2.le
      | succ i=>exact z3 i a v (by simpa using e1) (by simpa using e2)
   ·cases hf
  ·cases hf
 | [],_::_,_,_,_,_,hf=>by cases hf
 | _::_,[],_,_,_,_,hf=>by cases hf
def yV (l:List (Bool×Ty)) (pv:A) (h:H):Option (A×H×List Nat):=match pv with
 | .jy aa=>match CE l aa h with
  | some (xQ,h',T)=>some (.jy xQ,h',T)
  | none=>none
 | _=>none
def yW (l:List (Bool×Ty)) (pv:A) (h:H):Option (A×H×List Nat):=match l with
 | [p]=>FK p.1 p.2 pv h
 | l=>yV l pv h
def Plain (sg:da):Type:=kG sg.ps→q7 sg.rg→q7 sg.wg→Option (kG sg.rs×q7 sg.wg)
def JH (l:List (Bool×Ty)) (pv:A):Option (kG l):=match l with
 | [p]=>Mu [p] [pv]
 | l=>match pv with
  | .jy aa=>Mu l aa
  | _=>none
def okW (l:List (Nat×RK)) (q:Nat):Bool:=Nat.beq (q%2) 0 || l.any fun p=>Nat.beq q (iF p.1)
def HB (cx:Cx) (f:FuncId) (sg:da) (aa:List A) (c:q7 sg.rg) (d:q7 sg.wg):Option (kG sg.rs×q7 sg.wg):=cx.call (kG sg.rs×q7 sg.wg) f aa (h0 sg.rg sg.wg c d) (fun pv h' T=>match yW sg.rs pv h' with
 | some (D_,h2,T2)=>bif T.ws.all (okW sg.wg) && T2.all (okW sg.wg) then (match JH sg.rs D_,yT sg.wg h2.rg with
  | some y,some d'=>some (y,d')
  | _,_=>none) else none
 | none=>none)
def ME (cx:Cx) (f:FuncId) (sg:da):Plain sg:=fun x c d=>HB cx f sg (m0 sg.ps x) c d
def sP (l:List (Bool×Ty)) (y:kG l):A:=yi (m0 l y)
structure bj (P:Program) (f:FuncId) (sg:da) (F:Plain sg):Prop where
 fn:∀x c d y,F x c d=some y→vG P f
 pc:∀x c d y d',F x c d=some (y,d')→∃t aR lk,PC P f (m0 sg.ps x) (hp (h0 sg.rg sg.wg c d)) (hp ⟨t,aR,dC sg.wg d'++dC sg.rg c,lk⟩) (sP sg.rs y)
theorem Al {l:List (Nat×RK)} {ws:List Nat} (h:ws.all (okW l)=true) {r:Nat} (hr:dt l r=false):ws.any (Nat.beq (iF r))=false:=by
 cases hx:ws.any (Nat.beq (iF r)) with
 | false=>rfl
 | true=>
  obtain ⟨q,h1,h2⟩:=List.any_eq_true.1 hx
  have h3:=List.all_eq_true.1 h q h1
  obtain rfl:=beq_eq h2
  unfold okW at h3
  rw [Bool.or_eq_true] at h3
  rcases h3 with h3 | h3
  ·have:=beq_eq h3;unfold iF at this;omega
  ·obtain ⟨p,p1,p2⟩:=List.any_eq_true.1 h3
   have:r=p.1:=by have:=beq_eq p2;unfold iF at this;omega
   subst this
   rw [show dt l p.1=true from List.any_eq_true.2 ⟨p,p1,Nat.beq_refl _⟩] at hr
   cases hr
theorem Dt {l:List (Bool×Ty)} {pv:A} {y:kG l} (h:JH l pv=some y):∀g v,V g pv v→V g (sP l y) v:=by
 have jy:∀(l:List (Bool×Ty)) (aa:List A) (y:kG l),Mu l aa=some y→∀g v,V g (.jy aa) v→V g (.jy (m0 l y)) v:=fun l aa y h g v hv=>by
  obtain ⟨k1,k2⟩:=uc l aa y h
  cases hv with
  | jy _ vs hl G6=>
   refine .jy _ vs (by rw [←k1];exact hl) (fun i c x e1 e2=>?_)
   have hi:i<aa.length:=by rw [k1];exact (zB.1 e1).1
   exact k2 i _ c (zD hi) e1 g x (G6 i _ x (zD hi) e2)
 match l,y,h with
 | [p],y,h=>exact fun g v hv=>(uc [p] [pv] y h).2 0 pv _ rfl rfl g v hv
 | [],y,h=>
  intro g v hv
  cases pv with
  | jy aa=>exact jy [] aa y h g v hv
  | _=>cases h
 | p::q::l,y,h=>
  intro g v hv
  cases pv with
  | jy aa=>exact jy (p::q::l) aa y h g v hv
  | _=>cases h
theorem Agree.self {T:Fp} {S:Hp}:Agree T S S:=fun _ _=>⟨rfl,Iff.rfl⟩
theorem fm {h:H} {i:Nat} (hl:¬i<cI):(hp h).ob i=dR h.rg i∧((hp h).fr i↔gf h.rg i):=⟨if_neg hl,by show (if i<cI then _ else _)↔_;rw [if_neg hl]⟩
theorem pW {i:Nat} (h:¬i<16777216):res i=iF (mq i):=by
 unfold res
 rw [uG h];rfl
theorem CD {l:List (Bool×Ty)} {pv D_:A} {h h':H} {T:List Nat} (hf:yW l pv h=some (D_,h',T)):∃us,hp h'=app us (hp h)∧(∀u∈us,touch (.wr T) u.id=true)∧∀g S w (v:Value),Inv g S w→Agree (.wr T) (hp h) S→V g pv v→∃g',Inv g' (app us S) w∧Ext S g w (app us S) g' w∧V g' D_ v:=by
 have jy:∀(l:List (Bool×Ty)),yV l pv h=some (D_,h',T)→∃us,hp h'=app us (hp h)∧(∀u∈us,touch (.wr T) u.id=true)∧∀g S w (v:Value),Inv g S w→Agree (.wr T) (hp h) S→V g pv v→∃g',Inv g' (app us S) w∧Ext S g w (app us S) g' w∧V g' D_ v:=fun l hf=>by
  unfold yV at hf
  split at hf
  ·rename_i aa
   split at hf
   ·rename_i xQ h1 T1 hc
    simp only [zI,zU] at hf
    obtain ⟨rfl,rfl,rfl⟩:=hf
    obtain ⟨hl,us,c1,c2,c3⟩:=ve hc
    refine ⟨us,c1,c2,fun g S w v hI hA hv=>?_⟩
    cases hv with
    | jy _ vs OT hh=>
     obtain ⟨g',q1,q2,q3⟩:=c3 g S w vs.toList hI hA (by simpa using OT) (fun i c x e1 e2=>hh i c x e1 (by simpa using e2))
     exact ⟨g',q1,q2,.jy xQ vs (by rw [hl,OT]) (fun i c x e1 e2=>q3 i c x e1 (by simpa using e2))⟩
   ·cases hf
  ·cases hf
 unfold yW at hf
 split at hf
 ·exact vf hf
 ·exact jy _ hf
theorem oU {P:Program} {cx:Cx} (hx:lK P cx) (f:FuncId) (sg:da):∀aa c d y d',HB cx f sg aa c d=some (y,d')→vG P f∧∃t aR lk,PC P f aa (hp (h0 sg.rg sg.wg c d)) (hp ⟨t,aR,dC sg.wg d'++dC sg.rg c,lk⟩) (sP sg.rs y):=fun aa c d y d' h=>by
 obtain ⟨pv,h',T,k1,k2⟩:=hx.call _ f _ _ _ _ h
 split at k1
 ·rename_i D_ h2 T2 abe
  obtain ⟨kw,k1⟩:=af k1
  rw [zC] at kw
  split at k1
  ·rename_i y' d'' h1 Y2
   cases k1
   refine ⟨k2.fn,h2.t,h2.aR,h2.lk,?_⟩
   have hs:=k2.ok (hp (h0 sg.rg sg.wg c d)) Agree.self
   have e:iU T (hp h') (hp (h0 sg.rg sg.wg c d))=hp h':=Hp.ext' (fun i=>by
    show (if touch T i=true then _ else _)=_
    split
    ·rfl
    ·rename_i hi;exact (k2.out i (by simpa using hi)).1.symm) (fun i=>by
    show (if touch T i=true then _ else _)↔_
    split
    ·exact Iff.rfl
    ·rename_i hi;exact (k2.out i (by simpa using hi)).2.symm)
   rw [e] at hs
   obtain ⟨us,c1,c2,c3⟩:=CD abe
   have hf:=lB _ _ _ Y2
   have e2:hp h2=hp ⟨h2.t,h2.aR,dC sg.wg d'++dC sg.rg c,h2.lk⟩:=by
    have key:∀i,¬i<cI→(hp h2).ob i=dR (dC sg.wg d'++dC sg.rg c) i∧((hp h2).fr i↔gf (dC sg.wg d'++dC sg.rg c) i):=fun i hl=>by
     cases hk:dt sg.wg (mq i) with
     | true=>
      obtain ⟨q1,x,q2⟩:=hf _ hk
      rw [(fm hl).1,(fm hl).2]
      unfold dR gf
      rw [g8,q1,q2]
      exact ⟨rfl,Iff.rfl⟩
     | false=>
      have hw:wt T i=false:=by
       unfold wt
       rw [pW hl,Al kw.1 hk,Bool.and_false]
      have h3:=k2.rd i hw
      have h4:=dj us (hp h') i (fun u hu e=>by
       have:=c2 u hu
       rw [←e] at this
       have this:T2.any (Nat.beq (res i))=true:=by simpa [touch,Fp.wr] using this
       rw [pW hl,Al kw.2 hk] at this;cases this)
      rw [c1,h4.1,h4.2,h3.1,h3.2,(fm hl).1,(fm hl).2]
      show dR (dC sg.wg d++dC sg.rg c) i=_∧(gf (dC sg.wg d++dC sg.rg c) i↔_)
      unfold dR gf
      rw [g8,g8,dS _ _ _ hk,dS _ _ _ hk]
      exact ⟨rfl,Iff.rfl⟩
    refine Hp.ext' (fun i=>?_) (fun i=>?_)
    ·by_cases hl:i<cI
     ·show (if i<cI then _ else _)=(if i<cI then _ else _);rw [if_pos hl,if_pos hl]
     ·rw [(key i hl).1,(fm hl).1]
    ·by_cases hl:i<cI
     ·show (if i<cI then _ else _)↔(if i<cI then _ else _);rw [if_pos hl,if_pos hl]
     ·rw [(key i hl).2,(fm hl).2]
   rw [←e2,c1]
   intro g w vs hI hl hv
   refine (hs g w vs hI hl hv).mono ?_
   rintro e w' ⟨v,g',rfl,q1,q2,q3⟩
   obtain ⟨g2,z1,z2,z3⟩:=c3 g' _ w' v q2 Agree.self q1
   exact ⟨v,g2,rfl,Dt h1 g2 v z3,z1,q3.trans z2⟩
  ·cases k1
 ·cases k1
theorem HA {P:Program} {cx:Cx} (hx:lK P cx) (f:FuncId) (sg:da):bj P f sg (ME cx f sg):=
 ⟨fun x c d y h=>(oU hx f sg _ _ _ y.1 y.2 h).1,fun x c d y d' h=>(oU hx f sg _ _ _ _ _ h).2⟩
end
set_option linter.unusedVariables false
set_option linter.unusedSimpArgs false
section
open Go.RowKit
def kJ:(l:List (Nat×RK))→q7 l→List Rg→List Rg
 | [],_,rg=>rg
 | p::l,x,rg=>jK (kJ l x.2 rg) p.1 p.2 x.1
theorem lP:∀(l:List (Nat×RK)) (rg:List Rg) (c':q7 l),(∀r,dt l r=true→∃x,bq rg r=some x)→∀r,bq (kJ l c' rg) r=if dt l r=true then bq (dC l c') r else bq rg r
 | [],rg,c',_,r=>by simp [kJ,dt]
 | p::l,rg,c',hx,r=>by
  have ih:=lP l rg c'.2 (fun r hr=>hx r (by show (Nat.beq p.1 r || dt l r)=true;rw [hr,Bool.or_true]))
  have hp:∃x,bq (kJ l c'.2 rg) p.1=some x:=by
   rw [ih]
   split
   ·rename_i hk
    exact jM l c'.2 p.1 hk
   ·exact hx p.1 (by show (Nat.beq p.1 p.1 || dt l p.1)=true;rw [Nat.beq_refl];rfl)
  obtain ⟨x,hp⟩:=hp
  show bq (jK (kJ l c'.2 rg) p.1 p.2 c'.1) r=if (Nat.beq p.1 r || dt l r)=true then (bif Nat.beq p.1 r then some (⟨p.1,p.2,c'.1⟩:Rg) else bq (dC l c'.2) r) else bq rg r
  rw [nh _ p.1 p.2 c'.1 r x hp,ih]
  by_cases hr:r=p.1
  ·subst hr;rw [if_pos rfl,Nat.beq_refl];simp
  ·have:Nat.beq p.1 r=false:=by
    cases hb:Nat.beq p.1 r with
    | false=>rfl
    | true=>exact absurd (beq_eq hb).symm hr
   rw [if_neg hr,this];simp
def da.al (sg:da):List (Nat×RK):=sg.wg++sg.rg
theorem ES (l k:List (Nat×RK)) (r:Nat):dt (l++k) r=(dt l r || dt k r):=List.any_append
def SU (sg:da) (h:H):Bool:=(sg.al.all fun p=>Nat.blt p.1 64 && p.2.qd (dt sg.al)) && (sg.wg.all fun p=>!(wR h (iF p.1))) && (sg.ps.all fun p=>qd (dt sg.al) p.2) && (sg.rs.all fun p=>qd (dt sg.al) p.2)
def N3 (sg:da):Fp:=⟨false,sg.al.map fun p=>iF p.1,!sg.wg.isEmpty,sg.wg.map fun p=>iF p.1⟩
section
variable {β:Type}
def O4 (sg:da) (F:Plain sg) (aa:List A) (h:H) (K:A→H→Fp→Option β):Option β:=match Mu sg.ps aa,yT sg.rg h.rg,yT sg.wg h.rg with
 | some x,some c,some d=>bif SU sg h then bd (F x c d) (fun p=>DD (sP sg.rs p.1) (fun v=>K v { h with rg:=kJ sg.wg p.2 h.rg } (N3 sg))) else none
 | _,_,_=>none
def OJ:List Nat→Fp
 | []=>.no
 | l=>.wr l
theorem na (l:List Nat) (i:Nat):touch (OJ l) i=touch (.wr l) i:=by cases l<;>rfl
theorem Mr (l:List Nat) (i:Nat) (h:wt (OJ l) i=false):touch (.wr l) i=false:=by
 cases l with
 | nil=>rfl
 | cons a l=>exact td h
def Zb (sg:da) (F:Plain sg) (aa:List A) (h:H) (K:A→H→Fp→Option β):Option β:=match CE sg.ps aa h with
 | some (xQ,h1,T1)=>O4 sg F xQ h1 (fun v h2 T=>K v h2 ((OJ T1).cat T))
 | none=>none
theorem Ix {kp:Nat→Bool} {i:Nat} (h:i<16777216):iY kp i=false:=by
 unfold iY
 rw [yw h];rfl
theorem ET {kp:Nat→Bool} {i:Nat} (h:¬i<16777216):iY kp i=kp (mq i):=by
 unfold iY
 rw [uG h];rfl
theorem vr (l:List (Nat×RK)) (r:Nat):(l.map fun p=>iF p.1).any (Nat.beq (iF r))=dt l r:=by
 induction l with
 | nil=>rfl
 | cons p l ih=>
  show (Nat.beq (iF r) (iF p.1) || (l.map fun p=>iF p.1).any (Nat.beq (iF r)))=(Nat.beq p.1 r || dt l r)
  rw [ih]
  have:Nat.beq (iF r) (iF p.1)=Nat.beq p.1 r:=by
   cases h1:Nat.beq p.1 r with
   | true=>rw [beq_eq h1];exact Nat.beq_refl _
   | false=>
    cases h2:Nat.beq (iF r) (iF p.1) with
    | false=>rfl
    | true=>
     have:p.1=r:=by have:=beq_eq h2;unfold iF at this;omega
     rw [this,Nat.beq_refl] at h1;cases h1
  rw [this]
theorem Jt (l:List (Nat×RK)) (i:Nat):(l.map fun p=>iF p.1).any (Nat.beq (dz i))=false:=by
 induction l with
 | nil=>rfl
 | cons p l ih=>
  show (Nat.beq (dz i) (iF p.1) || (l.map fun p=>iF p.1).any (Nat.beq (dz i)))=false
  rw [ih,Bool.or_false]
  cases h2:Nat.beq (dz i) (iF p.1) with
  | false=>rfl
  | true=>have:=beq_eq h2;unfold iF dz at this;omega
theorem oN (sg:da) (i:Nat):touch (N3 sg) i=iY (dt sg.al) i:=by
 have e:touch (N3 sg) i=(sg.al.map fun p=>iF p.1).any (Nat.beq (res i)):=Bool.false_or _
 rw [e]
 by_cases h:i<16777216
 ·rw [ni h,Ix h];exact Jt _ _
 ·rw [pW h,ET h];exact vr _ _
theorem QF {sg:da} {i:Nat} (h:wt (N3 sg) i=false) (hl:¬i<16777216):dt sg.wg (mq i)=false:=by
 have e:(!sg.wg.isEmpty && (sg.wg.map fun p=>iF p.1).any (Nat.beq (res i)))=false:=h
 rw [pW hl,vr] at e
 cases hw:sg.wg with
 | nil=>rfl
 | cons p l=>rw [hw] at e;simpa using e
theorem sD {kp:Nat→Bool}:∀(l:List (Bool×Ty)) (x:kG l),(l.all fun p=>qd kp p.2)=true→∀a∈m0 l x,VK kp a
 | [],_,_,a,ha=>by cases ha
 | p::l,x,h,a,ha=>by
  simp only [List.all_cons,zC] at h
  rcases List.mem_cons.1 ha with rfl | ha
  ·exact .pack _ h.1
  ·exact sD l x.2 h.2 a ha
theorem ru {kp:Nat→Bool}:∀(l:List (Nat×RK)) (c:q7 l),(∀p∈l,p.2.qd kp=true)→∀r q,bq (dC l c) r=some q→q.k.qd kp=true
 | [],c,_,r,q,h=>by cases h
 | p::l,c,hl,r,q,h=>by
  have h:(bif Nat.beq p.1 r then some (⟨p.1,p.2,c.1⟩:Rg) else bq (dC l c.2) r)=some q:=h
  cases hb:Nat.beq p.1 r with
  | true=>rw [hb] at h;cases h;exact hl p (.head _)
  | false=>rw [hb] at h;exact ru l c.2 (fun p hp=>hl p (.tail _ hp)) r q h
theorem Gb {P:Program} {f:FuncId} {sg:da} {F:Plain sg} (hF:bj P f sg F) {aa:List A} {h:H} {K:A→H→Fp→Option β} {r:β} (hr:O4 sg F aa h K=some r):∃pv h' T,K pv h' T=some r∧tZ P f aa h h' T pv:=by
 unfold O4 at hr
 split at hr
 ·rename_i x c d hx hc hd
  obtain ⟨hs,hr⟩:=af hr
  obtain ⟨⟨y,d'⟩,hy,hr⟩:=sC hr
  obtain ⟨pv,hr,qe⟩:=yc hr
  unfold SU at hs
  simp only [zC] at hs
  obtain ⟨⟨⟨Nl,_⟩,hs2⟩,hs3⟩:=hs
  obtain ⟨t,aR,lk,G9⟩:=hF.pc x c d y d' hy
  have hfc:=lB _ _ _ hc
  have hfd:=lB _ _ _ hd
  have Cr:=lP sg.wg h.rg d' (fun r hr=>(hfd r hr).2)
  have YK:∀r,dt sg.al r=(dt sg.wg r || dt sg.rg r):=fun r=>ES _ _ r
  have fA:∀r,dt sg.al r=true→bq (dC sg.wg d++dC sg.rg c) r=bq h.rg r:=fun r hk=>by
   rw [g8]
   cases hw:dt sg.wg r with
   | true=>obtain ⟨e,q,hq⟩:=hfd r hw;rw [e,hq]
   | false=>
    rw [dS _ _ _ hw]
    exact (hfc r (by rw [YK,hw] at hk;simpa using hk)).1
  have fB:∀r,dt sg.al r=true→bq (dC sg.wg d'++dC sg.rg c) r=bq (kJ sg.wg d' h.rg) r:=fun r hk=>by
   rw [g8,Cr]
   cases hw:dt sg.wg r with
   | true=>obtain ⟨q,hq⟩:=jM sg.wg d' r hw;rw [hq];simp
   | false=>
    rw [dS _ _ _ hw]
    exact (hfc r (by rw [YK,hw] at hk;simpa using hk)).1
  have fC:∀r,dt sg.al r=false→bq (dC sg.wg d++dC sg.rg c) r=none:=fun r hk=>by
   rw [YK,Bool.or_eq_false_iff] at hk
   rw [g8,dS _ _ _ hk.1]
   exact dS _ _ _ hk.2
  have fD:∀i,(¬i<cI→dt sg.wg (mq i)=false)→(hp { h with rg:=kJ sg.wg d' h.rg }).ob i=(hp h).ob i∧((hp { h with rg:=kJ sg.wg d' h.rg }).fr i↔(hp h).fr i):=fun i hi=>by
   show (if i<cI then fO h.t i else dR (kJ sg.wg d' h.rg) i)=(if i<cI then fO h.t i else dR h.rg i)∧((if i<cI then h.aR≤i else gf (kJ sg.wg d' h.rg) i)↔(if i<cI then h.aR≤i else gf h.rg i))
   by_cases hl:i<cI
   ·rw [if_pos hl,if_pos hl,if_pos hl,if_pos hl];exact ⟨rfl,Iff.rfl⟩
   ·rw [if_neg hl,if_neg hl,if_neg hl,if_neg hl]
    have:=Cr (mq i)
    rw [hi hl,if_neg (by simp)] at this
    unfold dR gf
    rw [this];exact ⟨rfl,Iff.rfl⟩
  have EC:∀{i},iY (dt sg.al) i=true→¬i<cI∧dt sg.al (mq i)=true:=fun {i} hi=>by
   unfold iY at hi
   simp only [zC,Bool.not_eq_true'] at hi
   refine ⟨fun hl=>?_,hi.2⟩
   have:Nat.blt i 16777216=true:=yw hl
   rw [this] at hi;cases hi.1
  have Um:∀{i},iY (dt sg.al) i=false→¬i<cI→dt sg.al (mq i)=false:=fun {i} hi hl=>by
   rw [ET hl] at hi;exact hi
  have inL:∀(l:List Rg),(∀r q,bq l r=some q→q.k.qd (dt sg.al)=true)→∀i x,¬i<cI→dR l i=some x→O9 (dt sg.al) x:=fun l hl i x _ hx=>by
   unfold dR at hx
   split at hx
   ·rename_i q hq
    exact BH (hl _ q hq) hx
   ·cases hx
  have inA:∀(d1:q7 sg.wg) r q,bq (dC sg.wg d1++dC sg.rg c) r=some q→q.k.qd (dt sg.al)=true:=fun d1 r q hq=>by
   have jk:∀p∈sg.al,p.2.qd (dt sg.al)=true:=fun p hp=>by
    have:=List.all_eq_true.1 Nl p hp
    simp only [zC] at this
    exact this.2
   rw [g8] at hq
   split at hq
   ·rename_i q1 h1
    cases hq
    exact ru sg.wg d1 (fun p hp=>jk p (zQ _ hp)) _ _ h1
   ·exact ru sg.rg c (fun p hp=>jk p (zS _ hp)) _ _ hq
  refine ⟨pv,_,_,hr,⟨fun i hi=>fD i (fun hl=>?_),fun i hi=>fD i (fun hl=>QF hi hl),hF.fn x c d _ hy,fun S2 hA=>?_⟩⟩
  ·rw [oN] at hi
   have:=Um hi hl
   rw [YK,Bool.or_eq_false_iff] at this
   exact this.1
  ·have UR:=PC.frame (kp:=dt sg.al) (S:=S2) (fun i hi=>?_) (fun i hi=>?_) (fun i q hq=>?_) (fun i q hi hq=>?_) (sD sg.ps x hs2) (r:=sP sg.rs y) ?_ G9
   ·have e:Hp.join (dt sg.al) (hp ⟨t,aR,dC sg.wg d'++dC sg.rg c,lk⟩) S2=iU (N3 sg) (hp { h with rg:=kJ sg.wg d' h.rg }) S2:=by
     refine Hp.ext' (fun i=>?_) (fun i=>?_)
     ·show (if iY (dt sg.al) i=true then _ else _)=(if touch (N3 sg) i=true then _ else _)
      rw [oN]
      by_cases hi:iY (dt sg.al) i=true
      ·obtain ⟨n1,n2⟩:=EC hi
       rw [if_pos hi,if_pos hi,(fm n1).1,(fm n1).1]
       unfold dR
       rw [fB _ n2]
      ·rw [if_neg hi,if_neg hi]
     ·show (if iY (dt sg.al) i=true then _ else _)↔(if touch (N3 sg) i=true then _ else _)
      rw [oN]
      by_cases hi:iY (dt sg.al) i=true
      ·obtain ⟨n1,n2⟩:=EC hi
       rw [if_pos hi,if_pos hi,(fm n1).2,(fm n1).2]
       unfold gf
       rw [fB _ n2]
      ·rw [if_neg hi,if_neg hi]
    rw [e] at UR
    obtain ⟨u1,u2⟩:=uc _ _ _ hx
    intro g w vs hI hl hv
    refine (UR g w vs hI (by rw [←u1];exact hl) (fun i p v e1 e2=>?_)).mono ?_
    ·have hi:i<aa.length:=by rw [u1];exact (zB.1 e1).1
     exact u2 i _ p (zD hi) e1 g v (hv i _ v (zD hi) e2)
    ·rintro e w' ⟨v,g',rfl,q1,q2,q3⟩
     exact ⟨v,g',rfl,qe g' v q1,q2,q3⟩
   ·by_cases hl:i<cI
    ·show (if i<cI then fO .nil i else _)=none
     rw [if_pos hl];rfl
    ·rw [(fm hl).1]
     show dR (dC sg.wg d++dC sg.rg c) i=none
     unfold dR
     rw [fC _ (Um hi hl)]
   ·obtain ⟨n1,n2⟩:=EC hi
    obtain ⟨a1,a2⟩:=hA i (by rw [oN];exact hi)
    rw [a1,a2,(fm n1).1,(fm n1).2,(fm n1).1,(fm n1).2]
    show dR h.rg i=dR (dC sg.wg d++dC sg.rg c) i∧(gf h.rg i↔gf (dC sg.wg d++dC sg.rg c) i)
    unfold dR gf
    rw [fA _ n2];exact ⟨rfl,Iff.rfl⟩
   ·by_cases hl:i<cI
    ·have hq:(if i<cI then fO .nil i else _)=some q:=hq
     rw [if_pos hl] at hq;cases hq
    ·rw [(fm hl).1] at hq
     exact inL _ (inA d) i q hl hq
   ·rw [(fm (EC hi).1).1] at hq
    exact inL _ (inA d') i q (EC hi).1 hq
   ·have jk:=sD (kp:=dt sg.al) sg.rs y hs3
    unfold sP
    generalize m0 sg.rs y=ps at jk
    match ps,jk with
    | [p],jk=>exact jk p (.head _)
    | [],jk=>exact .jy jk
    | p::q::ps,jk=>exact .jy jk
 ·cases hr
theorem N4 {P:Program} {f:FuncId} {sg:da} {F:Plain sg} (hF:bj P f sg F) {aa:List A} {h:H} {K:A→H→Fp→Option β} {r:β} (hr:Zb sg F aa h K=some r):∃pv h' T,K pv h' T=some r∧tZ P f aa h h' T pv:=by
 unfold Zb at hr
 split at hr
 ·rename_i xQ h1 T1 IP
  obtain ⟨pv,h2,T,k1,k2⟩:=Gb hF hr
  obtain ⟨hl,us,c1,c2,c3⟩:=ve IP
  have out:∀i,touch (OJ T1) i=false→(hp h1).ob i=(hp h).ob i∧((hp h1).fr i↔(hp h).fr i):=fun i hi=>by
   rw [c1];exact dj us _ i (fun u hu e=>by rw [na,e,c2 u hu] at hi;cases hi)
  have f1:nM h h1 (OJ T1):=⟨out,fun i hi=>out i ((na T1 i).trans (Mr T1 i hi))⟩
  have f2:nM h1 h2 T:=⟨k2.out,k2.rd⟩
  refine ⟨pv,h2,_,k1,(f1.trans f2).out,(f1.trans f2).rd,k2.fn,fun S2 hA=>?_⟩
  rw [←fU f2]
  have A1:=hA.left
  have A2:=Agree.right f1 hA
  have e:iU (OJ T1) (hp h1) S2=app us S2:=by rw [c1];exact hP (fun u hu=>(na T1 _).trans (c2 u hu)) A1
  rw [e] at A2 ⊢
  intro g w vs hI YX hv
  obtain ⟨g1,q1,q2,q3⟩:=c3 g S2 w vs hI (fun i hi=>A1 i ((na T1 i).trans hi)) YX hv
  refine (k2.ok _ A2 g1 w vs q1 (by rw [hl];exact YX) q3).mono ?_
  rintro e w' ⟨v,g',rfl,z1,z2,z3⟩
  exact ⟨v,g',rfl,z1,z2,q2.trans z3⟩
 ·cases hr
end
end
set_option linter.unusedVariables false
set_option linter.unusedSimpArgs false
section
open Go.RowKit
def stay (N i:Nat):Prop:=i<N∨¬i<cI
structure zp (N:Nat) (g g':G):Prop where
 bm:∀i,stay N i→g'.bm i=g.bm i
 mem:g'.mem=g.mem
 lp:g'.lp=g.lp
def VP (N:Nat) (c:A):Prop:=∀g g' v,zp N g g'→V g c v→V g' c v
def G0 (N:Nat):Ref→Bool
 | .loc o=>Nat.blt o N
 | .eH _ _=>true
theorem lQ {N:Nat} {x:Ref} (h:G0 N x=true) {g g':G} (k:zp N g g'):g'.bm x.id=g.bm x.id:=by
 cases x with
 | loc o=>exact k.bm o (.inl (aY h))
 | eH r j=>exact k.bm _ (.inr (Nat.not_lt.2 (oi r j)))
def okF (p:A→Bool):Nat→Tr A→Bool
 | 0,_=>true
 | n+1,F=>p (aX F.get n) && okF p n F
theorem Ey {p:A→Bool} {F:Tr A}:∀{n:Nat},okF p n F=true→∀i,i<n→p (aX F.get i)=true
 | n+1,h,i,hi=>by
  have h:(p (aX F.get n) && okF p n F)=true:=h
  rw [zC] at h
  by_cases e:i=n
  ·rw [e];exact h.1
  ·exact Ey h.2 i (by omega)
def uE (N:Nat):Nat→A→Bool
 | 0,_=>false
 | k+1,a=>match a with
  | .agg cs=>cs.all (uE N k)
  | .jy cs=>cs.all (uE N k)
  | .fn _ fi ca=>fi.all (uE N k) && ca.all (uE N k)
  | .ptr o _=>Nat.blt o N
  | .tp x _=>G0 N x
  | .sl o _ _ _=>Nat.blt o N
  | .ts x _ _ _=>G0 N x
  | .tf x _ _ _=>G0 N x
  | .tw x _=>G0 N x
  | .aa x _ _ _=>G0 N x
  | .mp x=>G0 N x
  | .sH q n F _ _ _ _=>Nat.blt q N && okF (uE N k) n F
  | _=>true
theorem VP.tp {N:Nat} {x:Ref} {π:List Sp} (h:G0 N x=true):VP N (.tp x π):=fun g g' v k hv=>by
 cases hv with
 | tp _ _ b s h1 hk=>exact .tp x π b s ((lQ h k).trans h1) hk
theorem VP.tw {N:Nat} {x:Ref} {z:Nat} (h:G0 N x=true):VP N (.tw x z):=fun g g' v k hv=>by
 cases hv with
 | te _ _ ad h1=>exact .te x z ad ((lQ h k).trans h1)
 | tw _ _ n b cap t h1 hn hx hp d hd=>exact .tw x z n b cap t ((lQ h k).trans h1) hn hx hp d hd
theorem VP.e0 {N:Nat}:VP N .e0:=fun g g' v k hv=>by cases hv;exact .e0 _
theorem VP.mp {N:Nat} {x:Ref} (h:G0 N x=true):VP N (.mp x):=fun g g' v k hv=>by
 cases hv with
 | mp _ b s h1=>exact .mp x b s ((lQ h k).trans h1)
theorem gz {N:Nat}:∀(k:Nat) (a:A),uE N k a=true→VP N a
 | 0,_,h=>by cases h
 | k+1,.v x,_=>fun g g' v _ hv=>by cases hv;exact .v _
 | k+1,.agg cs,h=>fun g g' v hg hv=>by
  have h:cs.all (uE N k)=true:=h
  rw [List.all_eq_true] at h
  cases hv with
  | agg _ vs hl h1 hh=>exact .agg cs vs hl h1 (fun i c x e1 e2=>gz k c (h c (zG e1)) g g' x hg (hh i c x e1 e2))
 | k+1,.jy cs,h=>fun g g' v hg hv=>by
  have h:cs.all (uE N k)=true:=h
  rw [List.all_eq_true] at h
  cases hv with
  | jy _ vs hl hh=>exact .jy cs vs hl (fun i c x e1 e2=>gz k c (h c (zG e1)) g g' x hg (hh i c x e1 e2))
 | k+1,.fn f fi ca,h=>fun g g' v hg hv=>by
  have h:(fi.all (uE N k) && ca.all (uE N k))=true:=h
  rw [zC,List.all_eq_true,List.all_eq_true] at h
  cases hv with
  | fn _ _ _ fv cv hf hc h1 h2=>exact .fn f fi ca fv cv hf hc (fun i c x e1 e2=>gz k c (h.1 c (zG e1)) g g' x hg (h1 i c x e1 e2)) (fun i c x e1 e2=>gz k c (h.2 c (zG e1)) g g' x hg (h2 i c x e1 e2))
 | k+1,.ptr o off,h=>fun g g' v hg hv=>by
  cases hv with
  | ptr _ _ b s h1=>exact .ptr o off b s ((hg.bm o (.inl (aY h))).trans h1)
 | k+1,.tp x π,h=>.tp h
 | k+1,.sl o off z n,h=>fun g g' v hg hv=>by
  cases hv with
  | sl _ _ _ _ b cap s h1 hn hx hs=>exact .sl o off z n b cap s ((hg.bm o (.inl (aY h))).trans h1) hn hx hs
 | k+1,.ts x z off n,h=>fun g g' v hg hv=>by
  cases hv with
  | ts _ _ _ _ b cap s h1 hn hx hs hp d hd hq=>exact .ts x z off n b cap s ((lQ h hg).trans h1) hn hx hs hp d hd hq
  | tj _ _ _ _ ad h1 hn=>exact .tj x z off n ad ((lQ h hg).trans h1) hn
 | k+1,.tf x z off n,h=>fun g g' v hg hv=>by
  cases hv with
  | tf _ _ _ _ b s h1 hx hs d hd=>exact .tf x z off n b s ((lQ h hg).trans h1) hx hs d hd
  | Dz _ _ _ _ ad h1 hn=>exact .Dz x z off n ad ((lQ h hg).trans h1) hn
 | k+1,.tw x z,h=>.tw h
 | k+1,.aa x π n z,h=>fun g g' v hg hv=>by
  cases hv with
  | aa _ _ _ _ b cap s h1 hk hn hx=>exact .aa x π n z b cap s ((lQ h hg).trans h1) hk hn hx
 | k+1,.e0,_=>.e0
 | k+1,.tl t f l,_=>fun g g' v hg hv=>by
  cases hv with
  | tl _ _ _ _ h=>exact .tl t f l v (by rw [hg.mem];exact h)
 | k+1,.nn t l,_=>fun g g' v hg hv=>by
  cases hv with
  | nn _ _ a n c h=>exact .nn t l a n c (by rw [hg.mem];exact h)
 | k+1,.dp t x,_=>fun g g' v hg hv=>by
  cases hv with
  | dp _ _ b off f hm=>exact .dp t x b off f (fun j c e=>by rw [hg.mem];exact hm j c e)
 | k+1,.mp x,h=>.mp h
 | k+1,.op r o,_=>fun g g' v hg hv=>by
  cases hv with
  | op _ _ _ h0 h1=>exact .op r o v h0 (fun j e=>VP.tp (N:=N) (x:=.eH r j) rfl g g' v hg (h1 j e))
 | k+1,.os r z o,_=>fun g g' v hg hv=>by
  cases hv with
  | os _ _ _ _ h0 h1=>exact .os r z o v (fun e=>VP.e0 (N:=N) g g' v hg (h0 e)) (fun j e=>VP.tw (N:=N) (x:=.eH r j) rfl g g' v hg (h1 j e))
 | k+1,.om r o,_=>fun g g' v hg hv=>by
  cases hv with
  | om _ _ _ h0 h1=>exact .om r o v h0 (fun j e=>VP.mp (N:=N) (x:=.eH r j) rfl g g' v hg (h1 j e))
 | k+1,.sH q n F ps j aa bd,h=>fun g g' v hg hv=>by
  have h:(Nat.blt q N && okF (uE N k) n F)=true:=h
  rw [zC] at h
  cases hv with
  | sH _ _ _ _ _ _ _ b s l h0 hl h1 h2 h3 h4 h5=>exact .sH q n F ps j aa bd b s l ((hg.bm q (.inl (aY h.1))).trans h0) (by rw [hg.lp];exact hl) h1 h2 h3 h4 (fun i hi=>gz k _ (Ey h.2 i hi) g g' _ hg (h5 i hi))
 | k+1,.un,_=>fun g g' v _ hv=>by cases hv;exact .un
 | k+1,.cG,_=>fun g g' v _ _=>.cG v
theorem jv {N:Nat}:∀(t:Ty) (x:t.T),∀c∈aA t x,VP N c
 | .int k,x,c,h=>by rcases zF.1 h with rfl;exact gz 1 _ rfl
 | .bool,x,c,h=>by rcases zF.1 h with rfl;exact gz 1 _ rfl
 | .unit,_,c,h=>by cases h
 | .pair a b,x,c,h=>(zX.1 h).elim (jv a x.1 c) (jv b x.2 c)
 | .arr n t,l,c,h=>by
  obtain ⟨i,_,h⟩:=List.mem_flatMap.1 h
  exact jv t _ c h
 | .aF t,l,c,h=>by rcases zF.1 h with rfl;exact gz 1 _ rfl
 | .ptr r,x,c,h=>by rcases zF.1 h with rfl;exact gz 1 _ rfl
 | .cY r,j,c,h=>by rcases zF.1 h with rfl;exact gz 1 _ rfl
 | .je r z,x,c,h=>by rcases zF.1 h with rfl;exact gz 1 _ rfl
 | .pM r z,j,c,h=>by rcases zF.1 h with rfl;exact gz 1 _ rfl
 | .mp r,x,c,h=>by rcases zF.1 h with rfl;exact gz 1 _ rfl
theorem oY {N:Nat} (a:Bool) (t:Ty) (x:t.T):VP N (bO a t x):=by
 unfold bO
 have h:=jv (N:=N) t x
 cases a with
 | true=>
  intro g g' v hg hv
  cases hv with
  | agg _ vs hl h1 hh=>exact .agg _ vs hl h1 (fun i c y e1 e2=>h c (zG e1) g g' y hg (hh i c y e1 e2))
 | false=>
  generalize aA t x=cs at h
  match cs,h with
  | [c],h=>exact h c (.head _)
  | [],_=>exact fun g g' v _ _=>.cG v
  | _::_::_,_=>exact fun g g' v _ _=>.cG v
def G1 (N:Nat):Ob→Prop
 | .cells cs=>∀c∈cs,VP N c
 | .cX (.map es)=>∀e∈es,VP N e.1∧VP N e.2
 | .cX .AV=>True
 | .cX (.loop _ _)=>True
theorem DZ {N:Nat} {k:RK} {c:k.T} {j:Nat} {x:Ob} (h:dQ k c j=some x):G1 N x:=by
 cases k with
 | box t=>
  simp only [dQ] at h
  split at h
  ·cases h;exact jv t _
  ·cases h
 | row t=>
  simp only [dQ] at h
  split at h
  ·cases h;exact fun c hc=>by obtain ⟨y,_,hy⟩:=List.mem_flatMap.1 hc;exact jv t y c hy
  ·cases h
 | map ka tk va tv=>
  simp only [dQ] at h
  split at h
  ·cases h;exact fun e he=>by obtain ⟨y,_,rfl⟩:=List.mem_map.1 he;exact ⟨oY _ _ _,oY _ _ _⟩
  ·cases h
def gjv (g:G):Option (Option Nat)→Option (Option Nat×(Nat×Nat))
 | some (some o)=>g.bm o
 | some none=>some (none,(0,0))
 | none=>none
def gj (N:Nat) (names:List (Option Nat)) (g:G):G:=⟨fun i=>if i<N∨¬i<cI then g.bm i else gjv g names[i-N]?,g.mem,g.lp⟩
theorem Fz (N:Nat) (names:List (Option Nat)) (g:G):zp N g (gj N names g):=⟨fun i h=>if_pos h,rfl,rfl⟩
theorem xa {N:Nat} {names:List (Option Nat)} {g:G} {k:Nat} {nm:Option Nat} (h:names[k]?=some nm) (hl:N+names.length≤cI):(gj N names g).bm (N+k)=gjv g (some nm):=by
 have hk:=(zB.1 h).1
 show (if N+k<N∨¬N+k<cI then g.bm (N+k) else _)=_
 rw [if_neg (by omega),Nat.add_sub_cancel_left,h]
theorem m9.to {g g':G} {w:World} {b t:Nat} {cs:List A} (h:m9 g w b t cs) {N:Nat} (hs:zp N g g') (hc:∀c∈cs,VP N c):m9 g' w b t cs:=by
 obtain ⟨cur,ty,k1,k2,k3,k4⟩:=h
 exact ⟨cur,ty,k1,k2,k3,fun j c x e1 e2=>⟨hc c (zG e1) g g' x hs (k4 j c x e1 e2).1,(k4 j c x e1 e2).2⟩⟩
theorem pJ.to {g g':G} {x:O8} {ob:Obj} (h:pJ g x ob) {N:Nat} (hs:zp N g g') (hc:G1 N (.cX x)):pJ g' x ob:=by
 cases x with
 | map es=>
  obtain ⟨jO,clock,k1,k2,k3⟩:=h
  exact ⟨jO,clock,k1,k2,fun i e q e1 e2=>⟨(hc q (zG e2)).1 g g' _ hs (k3 i e q e1 e2).1,(hc q (zG e2)).2 g g' _ hs (k3 i e q e1 e2).2⟩⟩
 | AV=>exact h
 | loop=>exact h
theorem MG {N:Nat} {names:List (Option Nat)} {S S' S0:Hp} {g g0:G} {w w0:World} (hl:N+names.length≤cI)
  (h1:∀i x,stay N i→S'.ob i=some x→(S.ob i=some x∧G1 N x)∨∃cs cs',S.ob i=some (.cells cs)∧x = .cells cs'∧cs'.length=cs.length∧∀vs,Vs g cs vs→Vs (gj N names g) cs' vs)
  (h2:∀i x,¬stay N i→S'.ob i=some x→∃k nm,i=N+k∧names[k]?=some nm∧(∀o,nm=some o→S.ob o=some x∧G1 N x)∧(nm=none→x = .cells []))
  (h3:∀(k k' o:Nat),names[k]?=some (some o)→names[k']?=some (some o)→k=k')
  (h4:∀(k o:Nat),names[k]?=some (some o)→stay N o→S'.ob o=none)
  (h5:∀i,S'.fr i→(¬stay N i→N+names.length≤i)∧(stay N i→S.fr i))
  (hf:∀o,N≤o→o<cI→S0.fr o∧g0.bm o=none) (hI:Inv g S w) (hE:Ext S0 g0 w0 S g w) :
  Inv (gj N names g) S' w∧Ext S0 g0 w0 S' (gj N names g) w:=by
 have hs:=Fz N names g
 have ns:∀{i},¬stay N i→N≤i∧i<cI:=fun {i} h=>by unfold stay at h;omega
 have Vn:∀i,¬stay N i→(gj N names g).bm i=gjv g names[i-N]?:=fun i h=>if_neg h
 have src:∀i x b s,S'.ob i=some x→(gj N names g).bm i=some (some b,s)→∃o y,S.ob o=some y∧g.bm o=some (some b,s)∧(i=o∧stay N i∨¬stay N i∧∃k,i=N+k∧names[k]?=some (some o)):=fun i x b s e1 e2=>by
  by_cases hi:stay N i
  ·rcases h1 i x hi e1 with ⟨q1,q2⟩ | ⟨cs,cs',q1,_,_⟩
   ·exact ⟨i,x,q1,by rw [←hs.bm i hi];exact e2,.inl ⟨rfl,hi⟩⟩
   ·exact ⟨i,_,q1,by rw [←hs.bm i hi];exact e2,.inl ⟨rfl,hi⟩⟩
  ·obtain ⟨k,nm,rfl,hk,q1,q2⟩:=h2 i x hi e1
   rw [xa hk hl] at e2
   cases nm with
   | none=>cases e2
   | some o=>exact ⟨o,x,(q1 o rfl).1,e2,.inr ⟨hi,k,rfl,hk⟩⟩
 have inj:∀i j x y b s s',S'.ob i=some x→S'.ob j=some y→(gj N names g).bm i=some (some b,s)→(gj N names g).bm j=some (some b,s')→i=j:=fun i j x y b s s' e1 e2 k1 k2=>by
  obtain ⟨o1,x1,p1,p3,p4⟩:=src i x b s e1 k1
  obtain ⟨o2,x2,q1,q3,q4⟩:=src j y b s' e2 k2
  have ho:=hI.inj o1 o2 x1 x2 b s s' p1 q1 p3 q3
  subst ho
  rcases p4 with ⟨rfl,p5⟩ | ⟨p5,k,rfl,p6⟩
  ·rcases q4 with ⟨rfl,_⟩ | ⟨q5,k',rfl,q6⟩
   ·rfl
   ·rw [h4 k' i q6 p5] at e1;cases e1
  ·rcases q4 with ⟨rfl,q5⟩ | ⟨q5,k',rfl,q6⟩
   ·rw [h4 k j p6 q5] at e2;cases e2
   ·rw [h3 k k' o1 p6 q6]
 refine ⟨⟨fun i cs e=>?_,fun i x e=>?_,fun i e=>?_,fun i b s e=>?_,inj,hI.mem,fun i b s j x e k=>?_,hI.lp⟩,⟨⟨fun o p e=>?_,fun _ _ _ e=>hE.le.mem _ _ _ e,fun _ _ e=>hE.le.lp _ _ e⟩,hE.os,hE.tape,hE.output,hE.size,hE.frame,fun k ⟨i,s,x,e1,e2⟩=>?_,fun o p e=>?_,fun o e=>?_,hE.rR,hE.lpo⟩⟩
 ·by_cases hi:stay N i
  ·rw [hs.bm i hi]
   rcases h1 i _ hi e with ⟨q1,q2⟩ | ⟨ds,jF,q1,q2,q3,q4⟩
   ·exact (hI.cells i cs q1).imp id fun ⟨b,t,k1,k2⟩=>⟨b,t,k1,k2.to hs q2⟩
   ·cases q2
    rcases hI.cells i ds q1 with ⟨k1,k2⟩ | ⟨b,t,k1,cur,ty,k2,k3,k4⟩
    ·exact .inl ⟨k1,List.length_eq_zero_iff.1 (by rw [q3,k2];rfl)⟩
    ·exact .inr ⟨b,t,by rw [q3];exact k1,cur,ty,k2,k3,by rw [q3];exact q4 _ k4⟩
  ·obtain ⟨k,nm,rfl,hk,q1,q2⟩:=h2 i _ hi e
   rw [xa hk hl]
   cases nm with
   | none=>
    have:=q2 rfl
    cases this
    exact .inl ⟨rfl,rfl⟩
   | some o=>
    obtain ⟨q3,q4⟩:=q1 o rfl
    exact (hI.cells o cs q3).imp id fun ⟨b,t,k1,k2⟩=>⟨b,t,k1,k2.to hs q4⟩
 ·by_cases hi:stay N i
  ·rcases h1 i _ hi e with ⟨q1,q2⟩ | ⟨ds,jF,q1,q2,q3⟩
   ·obtain ⟨b,s,ob,k1,k2,k3⟩:=hI.cX i x q1
    exact ⟨b,s,ob,(hs.bm i hi).trans k1,k2,k3.to hs q2⟩
   ·cases q2
  ·obtain ⟨k,nm,rfl,hk,q1,q2⟩:=h2 i _ hi e
   cases nm with
   | none=>have:=q2 rfl;cases this
   | some o=>
    obtain ⟨q3,q4⟩:=q1 o rfl
    obtain ⟨b,s,ob,k1,k2,k3⟩:=hI.cX o x q3
    exact ⟨b,s,ob,(xa hk hl).trans k1,k2,k3.to hs q4⟩
 ·obtain ⟨q1,q2⟩:=h5 i e
  by_cases hi:stay N i
  ·rw [hs.bm i hi];exact hI.fresh i (q2 hi)
  ·rw [Vn i hi,zb (by have:=q1 hi;omega)];rfl
 ·by_cases hi:stay N i
  ·rw [hs.bm i hi] at e;exact hI.lt i b s e
  ·rw [Vn i hi] at e
   generalize names[i-N]?=nm at e
   match nm,e with
   | some (some o),e=>exact hI.lt o b s e
 ·obtain ⟨o,y,p1,p3,_⟩:=src i x b s e k
  exact hI.ly o b s j y p1 p3
 ·have hi:stay N o:=by
   by_cases hi:stay N o
   ·exact hi
   ·obtain ⟨a1,a2⟩:=ns hi
    rw [(hf o a1 a2).2] at e;cases e
  rw [hs.bm o hi];exact hE.le.bm o p e
 ·obtain ⟨o,y,p1,p3,_⟩:=src i x k s e1 e2
  exact hE.own k ⟨o,s,y,p1,p3⟩
 ·by_cases hi:stay N o
  ·rw [hs.bm o hi] at e;exact hE.Jd o p e
  ·obtain ⟨a1,a2⟩:=ns hi
   exact .inr ⟨(hf o a1 a2).2,(hf o a1 a2).1⟩
 ·by_cases hi:stay N o
  ·exact hE.fr o ((h5 o e).2 hi)
  ·obtain ⟨a1,a2⟩:=ns hi
   exact (hf o a1 a2).1
end
end Go.Bm