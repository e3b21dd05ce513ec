/- Texts of one proof, put together: see each part. -/
import Derived.Test.YtihiooaimdoapaaGreatVA
set_option maxHeartbeats 2000000
noncomputable section
set_option linter.unusedVariables false
set_option linter.unusedSimpArgs false
namespace Go.Bm
section
open Go.RowKit
theorem oB {s:Nat}:∀(π σ:List Sp),HE s (π++σ)↔HE s π∧HE s σ
 | [],σ=>⟨fun h=>⟨trivial,h⟩,fun h=>h.2⟩
 | .fst::π,σ=>oB π σ
 | .snd _::π,σ=>oB π σ
 | .ix _ _::π,σ=>(and_congr_right fun _=>oB π σ).trans and_assoc.symm
 | .ai _ _ _::π,σ=>(and_congr_right fun _=>oB π σ).trans and_assoc.symm
theorem ml:∀(π σ:List Sp),fg (π++σ)=fg π+fg σ
 | [],σ=>(Nat.zero_add _).symm
 | .fst::π,σ=>ml π σ
 | .snd c::π,σ=>by show c+fg (π++σ)=c+fg π+fg σ;rw [ml π σ,Nat.add_assoc]
 | .ix i z::π,σ=>by show i*z+fg (π++σ)=i*z+fg π+fg σ;rw [ml π σ,Nat.add_assoc]
 | .ai i n z::π,σ=>by show i*z+fg (π++σ)=i*z+fg π+fg σ;rw [ml π σ,Nat.add_assoc]
section
variable {P:Program} {E:Env} {o:Oper} {ρ:Operand→A} {h:H} {β:Type} {K:A→H→Fp→Option β} {r:β}
theorem Step.ta {h h':H} {T:Fp} {pv Lc:A} (k:Step P o ρ h h' T pv) (hv:∀g v,V g pv v→V g Lc v):Step P o ρ h h' T Lc where
 out:=k.out
 rd:=k.rd
 ok:=fun S2 hS=>fun r g w a next Q hI hx K'=>k.ok S2 hS r g w a next Q hI hx (fun v g' w' h1 h2 h3=>K' v g' w' (hv _ _ h1) h2 h3)
def HX (v:A) (k:A→Option β):Option β:=match v with
 | .op r o=>opt o (k (.v (.pointer none))) (fun j=>k (.tp (.cT r j) []))
 | .os r z o=>opt o (k .e0) (fun j=>k (.tw (.cT r j) z))
 | .om r o=>opt o (k (.v (.map none))) (fun j=>k (.mp (.cT r j)))
 | v=>k v
theorem CN {v:A} {k:A→Option β} (hr:HX v k=some r):∃v',k v'=some r∧∀g x,V g v x→V g v' x:=by
 unfold HX at hr
 split at hr
 ·rcases kF hr with ⟨e,h1⟩ | ⟨j,e,h1⟩
  ·exact ⟨_,h1,fun g x hv=>by cases hv with | op _ _ _ h0 _=>rw [h0 e];exact .v _⟩
  ·exact ⟨_,h1,fun g x hv=>by cases hv with | op _ _ _ _ h0=>exact h0 j e⟩
 ·rcases kF hr with ⟨e,h1⟩ | ⟨j,e,h1⟩
  ·exact ⟨_,h1,fun g x hv=>by cases hv with | os _ _ _ _ h0 _=>exact h0 e⟩
  ·exact ⟨_,h1,fun g x hv=>by cases hv with | os _ _ _ _ _ h0=>exact h0 j e⟩
 ·rcases kF hr with ⟨e,h1⟩ | ⟨j,e,h1⟩
  ·exact ⟨_,h1,fun g x hv=>by cases hv with | om _ _ _ h0 _=>rw [h0 e];exact .v _⟩
  ·exact ⟨_,h1,fun g x hv=>by cases hv with | om _ _ _ _ h0=>exact h0 j e⟩
 ·exact ⟨_,hr,fun g x hv=>hv⟩
def Out (P:Program) (o:Oper) (ρ:Operand→A) (h:H) (K:A→H→Fp→Option β) (r:β):Prop:=∃pv h' T,K pv h' T=some r∧Step P o ρ h h' T pv
theorem Out.pure {v:A} (hr:K v h .no=some r) (k:∀S2,gJ P o ρ S2 S2 v) (hd:∀c,o.op≠.defer c):Out P o ρ h K r:=⟨v,h,.no,hr,.pure k hd⟩
theorem Out.read {v:A} (T:List Nat) (hr:K v h (.rd T)=some r) (k:∀S2,bK (.rd T) (hp h) S2→gJ P o ρ S2 S2 v) (hd:∀c,o.op≠.defer c):Out P o ρ h K r:=⟨v,h,.rd T,hr,.read _ k hd⟩
theorem Out.sp {h':H} {T:Fp} {v:A} (hr:HX v (fun v=>K v h' T)=some r) (k:Step P o ρ h h' T v):Out P o ρ h K r:=by
 obtain ⟨v',h1,h2⟩:=CN hr
 exact ⟨v',h',T,h1,k.ta h2⟩
def mvK (x:A) (h:H) (K:A→H→Fp→Option β):Option β:=K x h .no
def Sh (px:A) (ix:Nat) (h:H) (K:A→H→Fp→Option β):Option β:=match px with
 | .mA cs=>match cs[ix]? with
  | some p=>HX p (fun v=>K v h .no)
  | none=>none
 | _=>none
theorem Nq {x:Operand} {ix:Nat} (ho:o.op = .extract x ix) (hr:Sh (ρ x) ix h K=some r):Out P o ρ h K r:=by
 unfold Sh at hr
 split at hr
 ·rename_i cs hx
  split at hr
  ·rename_i p hp
   exact .sp hr (.pure (fun S2=>Bg ho hx hp) (by rw [ho];intro c e;cases e))
  ·cases hr
 ·cases hr
def IL (px py pz:A) (h:H) (K:A→H→Fp→Option β):Option β:=match px with
 | .v (.bool b)=>br b (K py h .no) (K pz h .no)
 | _=>none
theorem IK {x y z:Operand} (ho:o.op = .pick x y z) (hr:IL (ρ x) (ρ y) (ρ z) h K=some r):Out P o ρ h K r:=by
 unfold IL at hr
 split at hr
 ·rename_i b hx
  rcases tS hr with ⟨rfl,h1⟩ | ⟨rfl,h1⟩
  ·exact .pure h1 (fun S2=>by have:=Be (P:=P) (S:=S2) ho hx;simpa using this) (by rw [ho];intro c e;cases e)
  ·exact .pure h1 (fun S2=>by have:=Be (P:=P) (S:=S2) ho hx;simpa using this) (by rw [ho];intro c e;cases e)
 ·cases hr
def abn (op:BinOp) (k:IntKind) (m n:Int) (K:Value→Option β):Option β:=match op with
 | .add=>K (.int k (ae k m n))
 | .sub=>K (.int k (aK k m n))
 | .mul=>K (.int k (fI k m n))
 | .quo=>gd (P4 n) (K (.int k (iI k m n)))
 | .rem=>gd (P4 n) (K (.int k (eg m n)))
 | .and=>K (.int k (bits .and k m n))
 | .or=>K (.int k (bits .or k m n))
 | .xor=>K (.int k (bits .xor k m n))
 | .andNot=>K (.int k (bits .andNot k m n))
 | .eql=>K (.bool (aj m n))
 | .neq=>K (.bool (aC (aj m n)))
 | .lss=>K (.bool (bw m n))
 | .leq=>K (.bool (cX m n))
 | .gtr=>K (.bool (bw n m))
 | .geq=>K (.bool (cX n m))
 | _=>none
theorem NL {op:BinOp} {k:IntKind} {m n:Int} {K:Value→Option β} (hr:abn op k m n K=some r):∃v,K v=some r∧MN op k m n=some v:=by
 cases op with
 | quo=>
  obtain ⟨h1,h2⟩:=cE (show gd (P4 n) (K (.int k (iI k m n)))=some r from hr)
  exact ⟨_,h2,if_neg h1⟩
 | rem=>
  obtain ⟨h1,h2⟩:=cE (show gd (P4 n) (K (.int k (eg m n)))=some r from hr)
  exact ⟨_,h2,if_neg h1⟩
 | _=>first | exact ⟨_,hr,rfl⟩ | cases hr
def shI (op:BinOp) (k:IntKind) (m n:Int) (K:Value→Option β):Option β:=match op with
 | .shl=>gd (bf n) (K (.int k (GJ k m n)))
 | .shr=>gd (bf n) (K (.int k (uA k m n)))
 | _=>none
theorem QT {op:BinOp} {k:IntKind} {m n:Int} {K:Value→Option β} (hr:shI op k m n K=some r):∃v,K v=some r∧Dj op k m n=some v:=by
 cases op with
 | shl=>
  obtain ⟨h1,h2⟩:=cE (show gd (bf n) (K (.int k (GJ k m n)))=some r from hr)
  exact ⟨_,h2,if_neg (by unfold bf at h1;omega)⟩
 | shr=>
  obtain ⟨h1,h2⟩:=cE (show gd (bf n) (K (.int k (uA k m n)))=some r from hr)
  exact ⟨_,h2,if_neg (by unfold bf at h1;omega)⟩
 | _=>cases hr
def P0:BinOp→Bool
 | .shl=>true
 | .shr=>true
 | _=>false
def isEq:BinOp→Bool
 | .eql=>true
 | .neq=>true
 | _=>false
theorem oa {op:BinOp} (h:isEq op=true):op = .eql∨op = .neq:=by cases op<;>first | exact .inl rfl | exact .inr rfl | cases h
def Gz (op:BinOp) (b:Bool):Bool:=match op with
 | .eql=>b
 | _=>aC b
theorem se {op:BinOp} (b:Bool) (h:isEq op=true):Gz op b=if op = .eql then b else !b:=by
 rcases oa h with rfl | rfl<;>rfl
def Gx (p q:A):Option Bool:=match q with
 | .v (.slice none 0 0)=>match p with
  | .v (.slice none _ _)=>some true
  | .nn _ _=>some false
  | .aa _ _ _ _=>some false
  | .sl _ _ _ _=>some false
  | _=>none
 | _=>none
theorem Mv {g:G} {p q:A} {u v:Value} {b:Bool} (h:Gx p q=some b) (hp:V g p u) (hq:V g q v):v = .slice none 0 0∧∃A n c,u = .slice A n c∧A.isNone=b:=by
 unfold Gx at h
 split at h
 ·cases hq
  refine ⟨rfl,?_⟩
  split at h
  ·cases h;cases hp;exact ⟨_,_,_,rfl,rfl⟩
  ·cases h;cases hp;exact ⟨_,_,_,rfl,rfl⟩
  ·cases h;cases hp;exact ⟨_,_,_,rfl,rfl⟩
  ·cases h;cases hp;exact ⟨_,_,_,rfl,rfl⟩
  ·cases h
 ·cases h
theorem Ib (d:Nat) (w:World) {T E:TypeId} (hT:P.underlying T=some (.slice E)) (A:Option Addr) (n c:Nat):(Op.equalIn (d+1) T (.slice A n c) (.slice none 0 0)).run P w = .ok A.isNone w:=by
 cases A<;>simp [Op.equalIn,run_underlying hT]
theorem Eo (w:World) {T E:TypeId} (hT:P.underlying T=some (.slice E)) (A:Option Addr) (n c:Nat):(Op.equalIn 10000 T (.slice A n c) (.slice none 0 0)).run P w = .ok A.isNone w:=Ib 9999 w hT A n c
theorem Mm {S:Hp} {op:BinOp} {T T' E:TypeId} {x y:Operand} {b:Bool} (ho:o.op = .binOp op T x y T') (hT:P.underlying T=some (.slice E)) (sX:op = .eql∨op = .neq)
  (hb:Gx (ρ x) (ρ y)=some b):gJ P o ρ S S (.v (.bool (if op = .eql then b else !b))):=
 .value fun g w a _ hv=>by
  obtain ⟨e2,A,n,c,h1,h2⟩:=Mv hb (hv x (by simp [ho,Op.operands])) (hv y (by simp [ho,Op.operands]))
  have iO:=Eo (P:=P) w hT A n c
  rw [h2] at iO
  refine ⟨.bool (if op = .eql then b else !b),?_,.v _⟩
  have mn:(eqGuard op T x y (.slice A n c) (.slice none 0 0)).run P w = .ok () w:=by
   rcases sX with rfl | rfl<;>rfl
  rcases sX with rfl | rfl
  ·have hb:(binOp .eql T (.slice A n c) (.slice none 0 0)).run P w = .ok (.bool b) w:=by
    simp only [binOp];simp [Op.equal,Op.maxDepth,iO]
   simp only [execOp,ho,h1,e2,Sem.run_bind,mn,Result.andThen_ok,if_true,hb,Sem.run_pure]
  ·have hb:(binOp .neq T (.slice A n c) (.slice none 0 0)).run P w = .ok (.bool (!b)) w:=by
    simp only [binOp];simp [Op.equal,Op.maxDepth,iO]
   simp only [execOp,ho,h1,e2,Sem.run_bind,mn,Result.andThen_ok,hb,Sem.run_pure]
   rfl
def KO (E:Env) (op:BinOp) (T:Nat) (px py:A) (h:H) (K:A→H→Fp→Option β):Option β:=match px,py with
 | .v (.int k m),.v (.int k' n)=>bif P0 op then shI op k m n (fun v=>K (.v v) h .no) else if k=k' then abn op k m n (fun v=>K (.v v) h .no) else none
 | .v (.bool p),.v (.bool q)=>bif isEq op then (match dx E.fm T with
  | some ⟨.bool,_,_,_,_,_,_⟩=>K (.v (.bool (Gz op (qx p q)))) h .no
  | _=>none) else none
 | px,py=>bif isEq op then (match dx E.fm T with
  | some e=>match e.d with
   | .pointer _=>match I6 px py with
    | some b=>K (.v (.bool (Gz op b))) h .no
    | none=>none
   | .slice _=>match Gx px py with
    | some b=>K (.v (.bool (Gz op b))) h .no
    | none=>none
   | .struct _=>bif kI px && kI py && E.eqs.any (Nat.beq T) then (match px.cells,py.cells with
    | some cs,some ds=>match Aq E 6 T cs ds with
     | some b=>K (.v (.bool (Gz op b))) h .no
     | none=>none
    | _,_=>none) else none
   | _=>none
  | none=>none) else none
theorem z_ (hE:di P E) {op:BinOp} {T T':TypeId} {x y:Operand} (ho:o.op = .binOp op T x y T') (hr:KO E op T (ρ x) (ρ y) h K=some r):Out P o ρ h K r:=by
 have hd:∀c,o.op≠.defer c:=by rw [ho];intro c e;cases e
 unfold KO at hr
 split at hr
 ·rename_i k m k' n hx hy
  cases hs:P0 op with
  | true=>
   rw [hs] at hr
   simp only [cond_true] at hr
   obtain ⟨v,h1,h2⟩:=QT hr
   exact .pure h1 (fun S2=>Gj ho hx hy h2) hd
  | false=>
   rw [hs] at hr
   simp only [cond_false] at hr
   split at hr
   ·rename_i hk;subst hk
    obtain ⟨v,h1,h2⟩:=NL hr
    exact .pure h1 (fun S2=>Mo ho hx hy h2) hd
   ·cases hr
 ·rename_i p q hx hy
  obtain ⟨hq,hr⟩:=ab hr
  split at hr
  ·rename_i ht
   refine .pure hr (fun S2=>?_) hd
   have:=Mn (P:=P) (S:=S2) ho (hE.fm _ _ ht).u hx hy (oa hq)
   rw [se _ hq]
   rcases oa hq with rfl | rfl<;>exact this
  ·cases hr
 ·obtain ⟨hq,hr⟩:=ab hr
  split at hr
  ·rename_i e ht
   split at hr
   ·rename_i el Hw
    split at hr
    ·rename_i b hb
     refine .pure hr (fun S2=>?_) hd
     rw [se _ hq]
     exact Gl ho (by rw [(hE.fm _ _ ht).u,Hw]) hb (oa hq)
    ·cases hr
   ·rename_i el Hw
    split at hr
    ·rename_i b hb
     refine .pure hr (fun S2=>?_) hd
     rw [se _ hq]
     exact Mm ho (by rw [(hE.fm _ _ ht).u,Hw]) (oa hq) hb
    ·cases hr
   ·rename_i fs Hw
    obtain ⟨hc,hr⟩:=ab hr
    simp only [zC] at hc
    split at hr
    ·rename_i cs ds h1 h2
     split at hr
     ·rename_i b hb
      refine .pure hr (fun S2=>?_) hd
      rw [se _ hq]
      exact Gm hE ho ht (by rw [Hw];rfl) (hE.eqs _ hc.2) hc.1.1 hc.1.2 h1 h2 hb (by omega) (oa hq)
     ·cases hr
    ·cases hr
   ·cases hr
  ·cases hr
def unK (op:UnOp) (px:A) (h:H) (K:A→H→Fp→Option β):Option β:=match op,px with
 | .not,.v (.bool b)=>K (.v (.bool (aC b))) h .no
 | _,_=>none
theorem QK {op:UnOp} {T:TypeId} {x:Operand} (ho:o.op = .unOp op T x) (hr:unK op (ρ x) h K=some r):Out P o ρ h K r:=by
 unfold unK at hr
 split at hr
 ·rename_i b hx
  exact .pure hr (fun S2=>Mh ho hx) (by rw [ho];intro c e;cases e)
 ·cases hr
def alc (E:Env) (s d:Nat) (px:A) (h:H) (K:A→H→Fp→Option β):Option β:=match dx E.fm s,dx E.fm d,px with
 | some _,some ⟨.int k',_,_,_,_,_,_⟩,.v (.int k n)=>if k'=k then K (.v (.int k n)) h .no else K (.v (.int k' (kQ k' n))) h .no
 | _,_,_=>none
def cvK (E:Env) (s d:Nat) (px:A) (h:H) (K:A→H→Fp→Option β):Option β:=match dx E.fm s,dx E.fm d,px with
 | some _,some ⟨.int k',_,_,_,_,_,_⟩,.v (.int _ n)=>K (.v (.int k' (kQ k' n))) h .no
 | _,_,_=>none
theorem Sq (hE:di P E) {s d:TypeId} {x:Operand} (ho:o.op = .convert s d x) (hr:cvK E s d (ρ x) h K=some r):Out P o ρ h K r:=by
 unfold cvK at hr
 split at hr
 ·rename_i es _ _ _ _ _ _ _ _ _ hs qt hx
  exact .pure hr (fun S2=>IY ho (by rw [(hE.fm _ _ hs).u];rfl) (hE.fm _ _ qt).u hx) (by rw [ho];intro c e;cases e)
 ·cases hr
def Yx (px:A) (h:H) (K:A→H→Fp→Option β):Option β:=bif Jy px then K px h .no else none
theorem Mx {x:Operand} (ho:o.op = .nilCheck x) (hr:Yx (ρ x) h K=some r):Out P o ρ h K r:=by
 obtain ⟨h1,h2⟩:=ab hr
 exact .pure h2 (fun S2=>yO ho h1) (by rw [ho];intro c e;cases e)
end
end
section
open Go.RowKit
section
variable {P:Program} {E:Env} {o:Oper} {ρ:Operand→A} {h:H} {β:Type} {K:A→H→Fp→Option β} {r:β}
def oq:Nat→Ty→Nat→Option (List Sp)
 | 1,_,0=>some []
 | _+2,.pair _ _,0=>some [.fst]
 | n+2,.pair a b,f+1=>match oq (n+1) b f with
  | some π=>some (.snd a.size::π)
  | none=>none
 | _,_,_=>none
theorem zn {s:Nat}:∀(n:Nat) (t:Ty) (f:Nat) (π:List Sp),oq n t f=some π→HE s π
 | 0,_,_,_,h=>by simp [oq] at h
 | 1,_,0,_,h=>by simp [oq] at h;subst h;trivial
 | 1,_,f+1,_,h=>by simp [oq] at h
 | n+2,.pair a b,0,_,h=>by simp [oq] at h;subst h;trivial
 | n+2,.pair a b,f+1,_,h=>by
  simp only [oq] at h
  split at h
  ·rename_i π' h'
   cases h
   exact zn (s:=s) (n+1) b f π' h'
  ·cases h
 | n+2,.int _,f,_,h=>by cases f<;>simp [oq] at h
 | n+2,.bool,f,_,h=>by cases f<;>simp [oq] at h
 | n+2,.unit,f,_,h=>by cases f<;>simp [oq] at h
 | n+2,.arr _ _,f,_,h=>by cases f<;>simp [oq] at h
 | n+2,.cB _,f,_,h=>by cases f<;>simp [oq] at h
 | n+2,.ptr _,f,_,h=>by cases f<;>simp [oq] at h
 | n+2,.dH _,f,_,h=>by cases f<;>simp [oq] at h
 | n+2,.kz _ _,f,_,h=>by cases f<;>simp [oq] at h
 | n+2,.sU _ _,f,_,h=>by cases f<;>simp [oq] at h
 | n+2,.mp _,f,_,h=>by cases f<;>simp [oq] at h
def R_ (E:Env) (T f:Nat) (px:A) (h:H) (K:A→H→Fp→Option β):Option β:=match dx E.fm T with
 | some ⟨.struct fs,_,_,_,_,t,_⟩=>match fs[f]? with
  | some fd=>match dx E.fm fd.type with
   | some e=>bif Nat.blt 0 e.size then (match px with
    | .ptr o off=>K (.ptr o (off+fd.offset)) h .no
    | .tp X π=>match t with
     | some t=>match oq fs.size t f with
      | some σ=>bif Nat.beq (fg σ) fd.offset then K (.tp X (π++σ)) h .no else none
      | none=>none
     | none=>none
    | .dp t x=>match oq fs.size t f with
     | some σ=>bif Nat.beq (fg σ) fd.offset then (match qY σ t x with
      | some s=>K (.dp s.t s.x) h .no
      | none=>none) else none
     | none=>none
    | _=>none) else none
   | none=>none
  | none=>none
 | _=>none
theorem Nk (hE:di P E) {T f:Nat} {x:Operand} (ho:o.op = .fieldAddr T x f) (hr:R_ E T f (ρ x) h K=some r):Out P o ρ h K r:=by
 have hd:∀c,o.op≠.defer c:=by rw [ho];intro c e;cases e
 unfold R_ at hr
 split at hr
 ·rename_i fs _ _ _ _ t _ ht
  split at hr
  ·rename_i fd hf
   split at hr
   ·rename_i e he
    obtain ⟨h0,hr⟩:=ab hr
    have h0:=bU h0
    have qK:∀{v:A},(∀g u,V g (ρ x) u→∃b off,u = .pointer (some ⟨b,off,none⟩)∧V g v (.pointer (some ⟨b,off+fd.offset,none⟩)))→∀S2,gJ P o ρ S2 S2 v:=fun hv S2=>
     Gk ho (hE.fm _ _ ht).u hf (hE.fm _ _ he).ti.size (by omega) hv
    split at hr
    ·rename_i q off hx
     refine .pure hr (qK fun g u hu=>?_) hd
     rw [hx] at hu
     cases hu with
     | ptr _ _ b s hb=>exact ⟨b,off,rfl,.ptr _ _ b s hb⟩
    ·rename_i X π hx
     split at hr
     ·rename_i t'
      split at hr
      ·rename_i σ hσ
       obtain ⟨hc,hr⟩:=ab hr
       refine .pure hr (qK fun g u hu=>?_) hd
       rw [hx] at hu
       cases hu with
       | tp _ _ b s hb hk=>
        refine ⟨b,fg π,rfl,?_⟩
        rw [←beq_eq hc,←ml]
        exact .tp X _ b s hb ((oB π σ).2 ⟨hk,zn _ _ _ _ hσ⟩)
      ·cases hr
     ·cases hr
    ·rename_i t' y hx
     split at hr
     ·rename_i σ hσ
      obtain ⟨hc,hr⟩:=ab hr
      split at hr
      ·rename_i sg YT
       refine .pure hr (qK fun g u hu=>?_) hd
       rw [hx] at hu
       cases hu with
       | dp _ _ b off f hm=>
        obtain ⟨a,c,q1,q2⟩:=pn σ t' y 0 sg YT (zn _ _ _ _ hσ)
        refine ⟨b,off,rfl,.dp sg.t sg.x b _ (fun j=>f (fg σ+j)) (fun j d hj=>?_)⟩
        have:=hm (fg σ+j) d (by
         rw [q1,zJ (by omega),show fg σ+j-a.length=j by omega,zK (zB.1 hj).1];exact hj)
        rw [←beq_eq hc,Nat.add_assoc]
        exact this
      ·cases hr
     ·cases hr
    ·cases hr
   ·cases hr
  ·cases hr
 ·cases hr
def spl:Nat→Nat→Int→(Nat→Option β)→Option β
 | 0,_,_,_=>none
 | n+1,i,m,k=>br (aj m (zN i)) (k i) (spl n (i+1) m k)
theorem CM {m:Int} {k:Nat→Option β}:∀(n i:Nat),spl n i m k=some r→∃j,k j=some r∧m=((j:Nat):Int)∧i≤j∧j<i+n
 | 0,i,h=>by cases h
 | n+1,i,h=>by
  rcases tS h with ⟨e,h1⟩ | ⟨e,h1⟩
  ·exact ⟨i,h1,of_decide_eq_true e,Nat.le_refl _,by omega⟩
  ·obtain ⟨j,k1,k2,k3,k4⟩:=CM n (i+1) h1
   exact ⟨j,k1,k2,by omega,by omega⟩
def adS:Operand→Option Nat
 | .const (.int _ (.ofNat n))=>some n
 | _=>none
theorem qE {n:Int} (h:bf n):((nN n:Nat):Int)=n:=Int.toNat_of_nonneg h
def ixK (E:Env) (T:Nat) (px:A) (y:Operand) (py:A) (h:H) (K:A→H→Fp→Option β):Option β:=match py with
 | .v (.int _ n)=>match dx E.fm T with
  | some ⟨.array len el,_,_,_,_,_,_⟩=>match dx E.fm el with
   | some e=>match px with
    | .ptr q off=>match adS y with
     | some i=>gd (neq (nN n) i) (bif Nat.blt i len then gd (bf n) (K (.ptr q (off+i*e.size)) h .no) else none)
     | none=>spl len 0 n (fun i=>K (.ptr q (off+i*e.size)) h .no)
    | .tp X π=>gd (bf n) (gd (bl (nN n) len) (K (.tp X (π++[.ai (nN n) len e.size])) h .no))
    | .dp t x=>gd (bf n) (gd (bl (nN n) len) (bif Nat.blt 0 e.size then (match qY [.ai (nN n) len e.size] t x with
     | some s=>K (.dp s.t s.x) h .no
     | none=>none) else none))
    | _=>none
   | none=>none
  | some ⟨.slice el,_,_,_,_,_,_⟩=>match dx E.fm el with
   | some e=>bif Nat.blt 0 e.size then (match px with
    | .tl t _ l=>bif Nat.beq t.size e.size then gd (bf n) (gd (bl (nN n) (len l)) (K (.dp t (nth t.dO l (nN n))) h .no)) else none
    | .tw X z=>bif Nat.beq z e.size then kY h X (fun t l=>bif Nat.beq z t.size then gd (bf n) (gd (bl (nN n) (len l)) (K (.tp X [.ix (nN n) z]) h (.rd [kX X]))) else none) else none
    | .ts X z off m=>bif Nat.beq z e.size then gd (bf n) (gd (bl (nN n) m) (K (.tp X [.ix (aU off (nN n)) z]) h .no)) else none
    | .tf X z off m=>bif Nat.beq z e.size then gd (bf n) (gd (bl (nN n) m) (K (.tp X [.ix (aU off (nN n)) z]) h .no)) else none
    | .aa X π m z=>bif Nat.beq z e.size then gd (bf n) (gd (bl (nN n) m) (K (.tp X (π++[.ai (nN n) m z])) h .no)) else none
    | .sl q off z m=>bif Nat.beq z e.size then spl m 0 n (fun i=>K (.ptr q (off+i*z)) h .no) else none
    | _=>none) else none
   | none=>none
  | _=>none
 | _=>none
theorem Nl {t:Ty} {l:List t.T} {i:Nat} (hi:i<l.length) {j:Nat} {c:D} (hj:(eH t (nth t.dO l i))[j]?=some c):(l.map (eH t)).flatten[i*t.size+j]?=some c:=by
 have e:l=l.take i++nth t.dO l i::l.drop (i+1):=by
  rw [show nth t.dO l i=l[i] by simp [nth,zA,zD hi],List.getElem_cons_drop,zP]
 have hl:((l.take i).flatMap (eH t)).length=i*t.size:=by
  have:∀m:List t.T,(m.flatMap (eH t)).length=m.length*t.size:=fun m=>by
   induction m with
   | nil=>simp
   | cons a m ih=>rw [List.flatMap_cons,zY,ih,fO,zR,Nat.succ_mul,Nat.add_comm]
  rw [this,List.length_take,Nat.min_eq_left (Nat.le_of_lt hi)]
 rw [nB]
 conv=>lhs;rw [e]
 rw [List.flatMap_append,List.flatMap_cons,zJ (by omega),hl,show i*t.size+j-i*t.size=j by omega,zK (zB.1 hj).1]
 exact hj
theorem Rx (hE:di P E) {T:Nat} {x y:Operand} (ho:o.op = .indexAddr T x y) (hr:ixK E T (ρ x) y (ρ y) h K=some r):Out P o ρ h K r:=by
 have hd:∀c,o.op≠.defer c:=by rw [ho];intro c e;cases e
 unfold ixK at hr
 split at hr
 ·rename_i k n hy
  split at hr
  ·rename_i len el _ _ _ _ _ _ ht
   split at hr
   ·rename_i e he
    have qK:∀{v:A},0≤n∧n<len→(∀g u,V g (ρ x) u→∃b off,u = .pointer (some ⟨b,off,none⟩)∧V g v (.pointer (some ⟨b,off+n.toNat*e.size,none⟩)))→∀S2,gJ P o ρ S2 S2 v:=fun hn hv S2=>
     w_ ho (hE.fm _ _ ht).u (hE.fm _ _ he).ti.size hy hn hv
    split at hr
    ·rename_i q off hx
     have ptr:∀i:Nat,n.toNat=i→∀g u,V g (ρ x) u→∃b Yt,u = .pointer (some ⟨b,Yt,none⟩)∧V g (.ptr q (off+i*e.size)) (.pointer (some ⟨b,Yt+n.toNat*e.size,none⟩)):=fun i hi g u hu=>by
      rw [hx] at hu
      cases hu with
      | ptr _ _ b s hb=>exact ⟨b,off,rfl,by rw [hi];exact .ptr _ _ b s hb⟩
     split at hr
     ·rename_i i _
      obtain ⟨h1,hr⟩:=cE hr
      obtain ⟨h2,hr⟩:=ab hr
      obtain ⟨h3,hr⟩:=cE hr
      have h4:=qE h3
      have h1:nN n=i:=h1
      have h5:=bU h2
      exact .pure hr (qK ⟨h3,by omega⟩ (ptr i h1)) hd
     ·obtain ⟨i,h1,h2,h3,h4⟩:=CM _ _ hr
      exact .pure h1 (qK ⟨by omega,by omega⟩ (ptr i (by omega))) hd
    ·rename_i X π hx
     obtain ⟨h3,hr⟩:=cE hr
     obtain ⟨h4,hr⟩:=cE hr
     have h5:=qE h3
     have h4:nN n<len:=h4
     refine .pure hr (qK ⟨h3,by omega⟩ (fun g u hu=>?_)) hd
     rw [hx] at hu
     cases hu with
     | tp _ _ b s hb hk=>
      refine ⟨b,fg π,rfl,?_⟩
      have:=V.tp (g:=g) X (π++[.ai (nN n) len e.size]) b s hb ((oB π [.ai (nN n) len e.size]).2 ⟨hk,show nN n<len∧True from ⟨h4,trivial⟩⟩)
      rw [ml] at this
      exact this
    ·rename_i t z hx
     obtain ⟨h3,hr⟩:=cE hr
     obtain ⟨h4,hr⟩:=cE hr
     obtain ⟨_,hr⟩:=ab hr
     have h5:=qE h3
     have h4:nN n<len:=h4
     split at hr
     ·rename_i sg YT
      refine .pure hr (qK ⟨h3,by omega⟩ (fun g u hu=>?_)) hd
      rw [hx] at hu
      cases hu with
      | dp _ _ b off f hm=>
       obtain ⟨a,c,q1,q2⟩:=pn _ t z 0 sg YT ⟨h4,trivial⟩
       have q2:a.length=nN n*e.size:=q2
       refine ⟨b,off,rfl,.dp sg.t sg.x b _ (fun j=>f (nN n*e.size+j)) (fun j d hj=>?_)⟩
       have:=hm (nN n*e.size+j) d (by
        rw [q1,zJ (by omega),show nN n*e.size+j-a.length=j by omega,zK (zB.1 hj).1];exact hj)
       rw [Nat.add_assoc]
       exact this
     ·cases hr
    ·cases hr
   ·cases hr
  ·rename_i el _ _ _ _ _ _ ht
   split at hr
   ·rename_i e he
    obtain ⟨h0,hr⟩:=ab hr
    have h0:=bU h0
    have qK:∀{v:A} {S2:Hp},(∀g w u,Inv g S2 w→V g (ρ x) u→∃b off m cap,u = .slice (some ⟨b,off,none⟩) m cap∧(0≤n∧n<m)∧V g v (.pointer (some ⟨b,off+n.toNat*e.size,none⟩)))→gJ P o ρ S2 S2 v:=fun hv=>
     yQ ho (hE.fm _ _ ht).u (hE.fm _ _ he).ti.size hy hv
    split at hr
    ·rename_i t f l hx
     obtain ⟨h1,hr⟩:=ab hr
     obtain ⟨h3,hr⟩:=cE hr
     obtain ⟨h4,hr⟩:=cE hr
     have h5:=qE h3
     have h4:nN n<l.length:=h4
     refine .pure hr (fun S2=>qK (fun g w u hI hu=>?_)) hd
     rw [hx] at hu
     cases hu with
     | tl _ _ _ _ hv=>
      rw [←beq_eq h1] at *
      generalize oJ:List.map (eH t) l=es at hv
      have tJ:es.length=l.length:=by rw [←oJ,zH]
      cases hv with
      | wR=>simp at tJ;omega
      | sl _ _ _ a cap vs hz hc hf hn su hl hm Ll=>
       obtain ⟨p,rfl⟩:∃p,a=some p:=by
        cases a with
        | none=>have:=hn rfl;omega
        | some p=>exact ⟨p,rfl⟩
       refine ⟨p.1,p.2,es.length,cap,rfl,⟨h3,by omega⟩,.dp t _ p.1 _ (fun j=>vs.getD (nN n*t.size+j) undef) (fun j c hj=>?_)⟩
       have xY:=Nl (t:=t) (l:=l) h4 hj
       rw [oJ] at xY
       have dP:=(zB.1 xY).1
       have Ht:vs[nN n*t.size+j]?=some (vs.getD (nN n*t.size+j) undef):=by
        rw [zA,zD (by rw [←hl];exact dP)];rfl
       refine ⟨?_,Ll _ c _ xY Ht⟩
       have:=hm p _ _ rfl Ht
       rw [Nat.add_assoc];exact this
    ·rename_i X z hx
     obtain ⟨h1,hr⟩:=ab hr
     obtain rfl:=beq_eq h1
     obtain ⟨t,l,hr,hX,fQ⟩:=gq hr
     obtain ⟨h2,hr⟩:=ab hr
     obtain ⟨h3,hr⟩:=cE hr
     obtain ⟨h4,hr⟩:=cE hr
     have h5:=qE h3
     have h4:nN n<l.length:=h4
     have h2:=beq_eq h2
     refine .read _ hr (fun S2 hA=>qK (fun g w u hI hu=>?_)) hd
     have fN:=(hA _ (cF hX (.head _))).1.trans fQ
     rw [hx] at hu
     cases hu with
     | Ai _ _ ad cR=>
      rcases hI.cells _ _ fN with ⟨_,k2⟩ | ⟨b,tt,k1,_⟩
      ·have:=bT t l
       rw [k2] at this
       have:0<l.length*t.size:=Nat.mul_pos (by omega) (by omega)
       simp at *;omega
      ·rw [k1] at cR;cases cR
     | tw _ _ m b cap tt cR hn su hp d qt=>
      rcases hI.cells _ _ fN with ⟨k1,_⟩ | ⟨b',LL,k1,_⟩
      ·rw [k1] at cR;cases cR
      have RT:=cR
      rw [k1] at cR
      simp only [zI,zU] at cR
      obtain ⟨rfl,hlen,_⟩:=cR
      rw [bT,h2] at hlen
      have hm:l.length=m:=Nat.eq_of_mul_eq_mul_right (by omega) hlen
      refine ⟨b',d,m,cap,rfl,⟨h3,by omega⟩,?_⟩
      obtain rfl:=qt (by omega)
      have:=V.tp (g:=g) X [.ix (nN n) e.size] b' _ RT ⟨zW _ (by omega),trivial⟩
      rw [show fg [.ix (nN n) e.size]=nN n*e.size from rfl] at this
      rw [Nat.zero_add];exact this
    ·rename_i X z off m hx
     obtain ⟨h1,hr⟩:=ab hr
     obtain rfl:=beq_eq h1
     obtain ⟨h3,hr⟩:=cE hr
     obtain ⟨h4,hr⟩:=cE hr
     have h5:=qE h3
     have h4:nN n<m:=h4
     refine .pure hr (fun S2=>qK (fun g w u hI hu=>?_)) hd
     rw [hx] at hu
     cases hu with
     | xv _ _ _ _ _ _ hn=>omega
     | ts _ _ _ _ b cap s cR hn su hs hp d qt=>
      refine ⟨b,d,m,cap,rfl,⟨h3,by omega⟩,?_⟩
      obtain rfl:=qt (by omega)
      have:=V.tp (g:=g) X [.ix (aU off (nN n)) e.size] b _ cR ⟨Nat.le_trans (zW _ (show aU off (nN n)+1≤off+m by unfold aU;omega)) hs,trivial⟩
      rw [show fg [.ix (aU off (nN n)) e.size]=(off+nN n)*e.size from rfl,Nat.add_mul] at this
      exact this
    ·rename_i X z off m hx
     obtain ⟨h1,hr⟩:=ab hr
     obtain rfl:=beq_eq h1
     obtain ⟨h3,hr⟩:=cE hr
     obtain ⟨h4,hr⟩:=cE hr
     have h5:=qE h3
     have h4:nN n<m:=h4
     refine .pure hr (fun S2=>qK (fun g w u hI hu=>?_)) hd
     rw [hx] at hu
     cases hu with
     | HU _ _ _ _ _ _ hn=>omega
     | tf _ _ _ _ b s cR su hs d qt=>
      refine ⟨b,d,m,m,rfl,⟨h3,by omega⟩,?_⟩
      obtain rfl:=qt (by omega)
      have:=V.tp (g:=g) X [.ix (aU off (nN n)) e.size] b _ cR ⟨Nat.le_trans (zW _ (show aU off (nN n)+1≤off+m by unfold aU;omega)) hs,trivial⟩
      rw [show fg [.ix (aU off (nN n)) e.size]=(off+nN n)*e.size from rfl,Nat.add_mul] at this
      exact this
    ·rename_i X π m z hx
     obtain ⟨h1,hr⟩:=ab hr
     obtain rfl:=beq_eq h1
     obtain ⟨h3,hr⟩:=cE hr
     obtain ⟨h4,hr⟩:=cE hr
     have h5:=qE h3
     have h4:nN n<m:=h4
     refine .pure hr (fun S2=>qK (fun g w u hI hu=>?_)) hd
     rw [hx] at hu
     cases hu with
     | aa _ _ _ _ b cap s cR hk hn su=>
      refine ⟨b,fg π,m,cap,rfl,⟨h3,by omega⟩,?_⟩
      have:=V.tp (g:=g) X (π++[.ai (nN n) m e.size]) b s cR ((oB π [.ai (nN n) m e.size]).2 ⟨hk,show nN n<m∧True from ⟨h4,trivial⟩⟩)
      rw [ml] at this
      exact this
    ·rename_i q off z m hx
     obtain ⟨h1,hr⟩:=ab hr
     obtain rfl:=beq_eq h1
     obtain ⟨i,k1,k2,k3,k4⟩:=CM _ _ hr
     refine .pure k1 (fun S2=>qK (fun g w u hI hu=>?_)) hd
     rw [hx] at hu
     cases hu with
     | sl _ _ _ _ b cap s cR hn su hs=>
      refine ⟨b,off,m,cap,rfl,⟨by omega,by omega⟩,?_⟩
      rw [show n.toNat=i by omega]
      exact .ptr _ _ b s cR
    ·cases hr
   ·cases hr
  ·cases hr
 ·cases hr
end
end
section
open Go.RowKit
section
variable {P:Program} {E:Env} {o:Oper} {ρ:Operand→A} {h:H} {β:Type} {K:A→H→Fp→Option β} {r:β}
def Rq (E:Env) (T:Nat) (px:A) (h:H) (K:A→H→Fp→Option β):Option β:=match dx E.fm T with
 | some e=>match px with
  | .ptr q off=>bif Nat.blt q 16777216 then (match h.t.get q with
   | some (.cells cs)=>bif lZ e.d then (bif Nat.ble (off+e.size) cs.length then K (.agg ((cs.drop off).take e.size)) h (.rd [fT q]) else none) else (match cs[off]? with
    | some c=>HX c (fun v=>K v h (.rd [fT q]))
    | none=>none)
   | _=>none) else none
  | .tp X π=>vt h X π (fun s=>bif Nat.beq s.t.size e.size then (bif lZ e.d then K (.agg (aJ s.t s.x)) h (.rd [kX X]) else (match aJ s.t s.x with
   | [c]=>HX c (fun v=>K v h (.rd [kX X]))
   | _=>none)) else none)
  | .dp t x=>bif t.data && Nat.beq t.size e.size then (bif lZ e.d then K (.agg (aJ t x)) h .no else (match aJ t x with
   | [c]=>HX c (fun v=>K v h .no)
   | _=>none)) else none
  | _=>none
 | none=>none
theorem Jj (hE:di P E) {T:Nat} {px:A} (hr:Rq E T px h K=some r):∃v l,K v h (.rd l)=some r∧∀S2,bK (.rd l) (hp h) S2→∀(o:Oper) (ρ:Operand→A) (x:Operand),o.op = .load T x→ρ x=px→K5 P o ρ S2 v:=by
 have sp:∀{c:A} {l:List Nat},HX c (fun v=>K v h (.rd l))=some r→(∀S2,bK (.rd l) (hp h) S2→∀(o:Oper) (ρ:Operand→A) (x:Operand),o.op = .load T x→ρ x=px→K5 P o ρ S2 c) →
   ∃v l,K v h (.rd l)=some r∧∀S2,bK (.rd l) (hp h) S2→∀(o:Oper) (ρ:Operand→A) (x:Operand),o.op = .load T x→ρ x=px→K5 P o ρ S2 v:=fun h1 h2=>by
  obtain ⟨v,k1,k2⟩:=CN h1
  exact ⟨v,_,k1,fun S2 hA o ρ x ho hx g w a hI hv=>let ⟨u,q1,q2⟩:=h2 S2 hA o ρ x ho hx g w a hI hv;⟨u,q1,k2 g u q2⟩⟩
 unfold Rq at hr
 split at hr
 ·rename_i e ht
  have hk:=hE.fm _ _ ht
  split at hr
  ·rename_i q off
   obtain ⟨hq,hr⟩:=ab hr
   have hq:=bU hq
   split at hr
   ·rename_i cs hg
    have fQ:(hp h).ob q=some (.cells cs):=by rw [mm hq];unfold ir;rw [hg];rfl
    cases ha:lZ e.d with
    | true=>
     rw [ha] at hr;simp only [cond_true] at hr
     obtain ⟨h1,hr⟩:=ab hr
     exact ⟨_,_,hr,fun S2 hA o ρ x ho hx=>rW ho hk.u ha hk.ti.size (by rw [hx];rfl) ((hA q (aM hq (.head _))).1.trans fQ) (Nat.le_of_ble_eq_true h1)⟩
    | false=>
     rw [ha] at hr;simp only [cond_false] at hr
     split at hr
     ·rename_i c hc
      exact sp hr (fun S2 hA o ρ x ho hx=>Bc ho hk.u ha (by rw [hx];rfl) ((hA q (aM hq (.head _))).1.trans fQ) hc)
     ·cases hr
   ·cases hr
  ·rename_i X π
   obtain ⟨sg,h1,hX,h2⟩:=xJ hr
   obtain ⟨h3,h1⟩:=ab h1
   have h3:=beq_eq h3
   have cn:∀{S2:Hp} {v:A} {o:Oper} {ρ:Operand→A} {x:Operand},o.op = .load T x→ρ x = .tp X π→bK (.rd [kX X]) (hp h) S2→(∀a c,S2.ob X.id=some (.cells (a++(aJ sg.t sg.x++c)))→a.length=fg π→K5 P o ρ S2 v)→K5 P o ρ S2 v:=fun {S2 v o ρ x} ho hx hA k=>.cn fun g w a hI hv=>by
    have Lm:=hv x (by simp [ho,Op.operands])
    rw [hx] at Lm
    have ha:=hA _ (cF hX (.head _))
    obtain ⟨a,c,q1,q2⟩:=h2 g _ w _ hI ha.1 ha.2 Lm
    exact k a c q1 q2
   have JI:∀{ρ:Operand→A} {x:Operand},ρ x = .tp X π→Pl (ρ x)=some (X.id,fg π):=fun hx=>by rw [hx];rfl
   cases ha:lZ e.d with
   | true=>
    rw [ha] at h1;simp only [cond_true] at h1
    refine ⟨_,_,h1,fun S2 hA o ρ x ho hx=>cn ho hx hA fun a c q1 q2=>?_⟩
    have:=rW (P:=P) ho hk.u ha hk.ti.size (JI hx) q1 (by simp only [zY,cQ];omega)
    rwa [←q2,List.drop_left,←h3,←cQ sg.t sg.x,List.take_left] at this
   | false=>
    rw [ha] at h1;simp only [cond_false] at h1
    split at h1
    ·rename_i c0 Lv
     refine sp h1 (fun S2 hA o ρ x ho hx=>cn ho hx hA fun a c q1 q2=>?_)
     refine Bc ho hk.u ha (JI hx) q1 ?_
     rw [←q2,zJ (Nat.le_refl _),Nat.sub_self,Lv];rfl
    ·cases h1
  ·rename_i t y
   obtain ⟨h1,hr⟩:=ab hr
   simp only [zC] at h1
   have h3:=beq_eq h1.2
   cases ha:lZ e.d with
   | true=>
    rw [ha] at hr;simp only [cond_true] at hr
    exact ⟨_,[],hr,fun S2 _ o ρ x ho hx=>t_ ho hk.u (by rw [h3];exact hk.ti.size) hx h1.1 (by rw [ha,if_pos rfl])⟩
   | false=>
    rw [ha] at hr;simp only [cond_false] at hr
    split at hr
    ·rename_i c0 Lv
     exact sp (l:=[]) hr (fun S2 _ o ρ x ho hx=>t_ ho hk.u (by rw [h3];exact hk.ti.size) hx h1.1 (by rw [ha,if_neg (by simp)];exact Lv))
    ·cases hr
  ·cases hr
 ·cases hr
theorem Rp (hE:di P E) {T:Nat} {x:Operand} (ho:o.op = .load T x) (hr:Rq E T (ρ x) h K=some r):Out P o ρ h K r:=by
 have hd:∀c,o.op≠.defer c:=by rw [ho];intro c e;cases e
 obtain ⟨v,l,k1,k2⟩:=Jj hE hr
 exact .read _ k1 (fun S2 hA=>.value (k2 S2 hA o ρ x ho rfl)) hd
def xq (P:Program) (o:Oper) (S S':Hp) (pv:A) (g:G) (w:World) (a:Act):Prop:=
 ∀(next:Act→World→Prop) (Q:Exit→Act→World→Prop),(∀v g' w',V g' pv v→Inv g' S' w'→Ext S g w S' g' w'→next (a.put o.dst v) w')→o.wp P a w next Q
theorem xq.pre {S S1 S':Hp} {pv:A} {g g1:G} {w:World} {a:Act} (k:xq P o S1 S' pv g1 w a) (e:Ext S g w S1 g1 w):xq P o S S' pv g w a:=fun next Q K=>k next Q (fun v g' w' h1 h2 h3=>K v g' w' h1 h2 (e.trans h3))
theorem HW {S:Hp} {T:TypeId} {x y:Operand} {p off n:Nat} {cs ps:List A} {g:G} {w:World} {a:Act} (ho:o.op = .store T x y) (hs:gC P T n) (hI:Inv g S w) (hx:∃b s,g.cn p=some (some b,s)∧a.eval x = .pointer (some ⟨b,off,none⟩)) (hy:Vs g ps (a.eval y).cells.toList) (hl:ps.length=n)
  (hp:S.ob p=some (.cells cs)) (hn:off+n≤cs.length):xq P o S (S.set p (.cells (put cs off ps))) .dI g w a:=by
 intro next Q K
 obtain ⟨b,s,h,hu⟩:=hx
 obtain ⟨cur,ty,k2,sW,h3,h4⟩:=hI.store (off:=off) hp h hy (by omega)
 unfold Oper.wp
 have qq:(a.eval y).cells.size=n:=by have:=hy.1;simp at this;omega
 have qF:=run_storeCells_at P b off ty (a.eval y).cells.toList 0 cur w k2 (by simpa using sW) hy.one
 simp only [execOp,ho,hu,Instr.storeAt,Instr.sureAddr,pure_bind,storeVar,Sem.run_bind,hs.run w,Result.andThen_ok,qq,ne_eq,not_true_eq_false,if_false]
 simp only [Nat.add_zero] at qF
 simp only [qF,Result.andThen_ok,Sem.run_pure]
 exact K _ g _ (.dI _) h3 h4
theorem Mg {T:Fp} {us:List Up} {S' S2:Hp} (hT:∀u∈us,aR T u.id=true):l6 T S' (app us S2)=l6 T S' S2:=by
 refine Hp.ext' (fun i=>?_) (fun i=>?_)
 ·show (if aR T i=true then _ else _)=(if aR T i=true then _ else _)
  split
  ·rfl
  ·rename_i hi;exact (gI us S2 i (fun u hu e=>hi (e▸hT u hu))).1
 ·show (if aR T i=true then _ else _)↔(if aR T i=true then _ else _)
  split
  ·exact Iff.rfl
  ·rename_i hi;exact (gI us S2 i (fun u hu e=>hi (e▸hT u hu))).2
def stK (E:Env) (T:Nat) (px py:A) (h:H) (K:A→H→Fp→Option β):Option β:=match dx E.fm T,py.cells with
 | some e,some ps=>match px with
  | .ptr q off=>bif Nat.blt q 16777216 then (match h.t.get q with
   | some (.cells cs)=>bif Nat.beq ps.length e.size && Nat.ble (off+e.size) cs.length && !(Bv h (fT q)) then g_ h.t q (some (.cells (put cs off ps))) (fun t1=>K .dI { h with t:=t1 } (.wr [fT q])) else none
   | _=>none) else none
  | .tp X π=>match plT h X π with
   | some u=>bif Nat.beq u.size e.size then (Sa u ps h (fun yM h1 T1=>match sV u yM with
     | some y=>uy h1 X π u y (fun h2=>K .dI h2 (.wr (kX X::T1)))
     | none=>none)) else none
   | none=>none
  | _=>none
 | _,_=>none
theorem tc {T U:List Nat} {w:Bool} {s:List Nat} {i:Nat} (hU:∀j∈U,j∈T) (k:aR ⟨false,T,w,s⟩ i=false):aR ⟨false,U,w,s⟩ i=false:=by
 cases hx:aR ⟨false,U,w,s⟩ i with
 | false=>rfl
 | true=>rw [gK hU hx] at k;cases k
theorem QQ (hE:di P E) {T:Nat} {x y:Operand} (ho:o.op = .store T x y) (hr:stK E T (ρ x) (ρ y) h K=some r):Out P o ρ h K r:=by
 have hd:∀c,o.op≠.defer c:=by rw [ho];intro c e;cases e
 unfold stK at hr
 split at hr
 ·rename_i e ps ht xf
  have hk:=hE.fm _ _ ht
  split at hr
  ·rename_i q off hx
   obtain ⟨hq,hr⟩:=ab hr
   have hq:=bU hq
   split at hr
   ·rename_i cs hg
    have fQ:(hp h).ob q=some (.cells cs):=by rw [mm hq];unfold ir;rw [hg];rfl
    obtain ⟨h1,hr⟩:=ab hr
    simp only [zC] at h1
    obtain ⟨_,t1,k1,k2⟩:=cp hr
    exact ⟨_,_,_,k1,.of [.set q (.cells (put cs off ps))] (tH (x:=.cells (put cs off ps)) hq k2) rfl (fun u hu=>by rcases zF.1 hu with rfl;exact aM (o:=q) hq (.head _))
     (fun S2 hA=>Gh ho hk.ti.size (by rw [hx];rfl) xf (beq_eq h1.1.1) ((hA q (aM hq (.head _))).1.trans fQ) (Nat.le_of_ble_eq_true h1.1.2)) hd⟩
   ·cases hr
  ·rename_i X π hx
   split at hr
   ·rename_i u hu
    obtain ⟨RB,hr⟩:=ab hr
    obtain ⟨yM,h1,T1,hr,us,c1,c2,c3⟩:=Nm hr
    split at hr
    ·rename_i y' hy
     obtain ⟨h2,k1,hX,k2,k3⟩:=LS hr
     have y_:∀u∈us,aR (Fp.wr (kX X::T1)) u.id=true:=fun u hu=>gK (fun i hi=>.tail _ hi) (c2 u hu)
     have out:∀i,aR (Fp.wr (kX X::T1)) i=false→(hp h2).ob i=(hp h).ob i∧((hp h2).fr i↔(hp h).fr i):=fun i hi=>by
      have e1:=k2 i (tc (T:=kX X::T1) (fun j hj=>by rcases zF.1 hj with rfl;exact .head _) hi)
      have e2:=gI us (hp h) i (fun u hu e=>by have:=y_ u hu;rw [←e] at this;rw [show aR (Fp.wr (kX X::T1)) i=false from hi] at this;cases this)
      rw [←c1] at e2
      exact ⟨e1.1.trans e2.1,e1.2.trans e2.2⟩
     refine ⟨_,_,_,k1,⟨out,fun i hi=>out i (xt hi),fun S2 hA=>?_⟩⟩
     ·refine gJ.Rh (fun g w a next Q hI hv K'=>?_) hd
      have Ak:=hv x (by simp [ho,Op.operands])
      have hvy:=(hv y (by simp [ho,Op.operands])).cells xf
      obtain ⟨g1,q1,q2,q3⟩:=c3 g S2 w _ hI (hA.mono fun i hi=>.tail _ hi) hvy
      obtain ⟨z1,z2⟩:=lH (g:=g1) u yM y' hy
      have TR:bK (Fp.wr (kX X::T1)) (hp h1) (app us S2):=by rw [c1];exact bK.app us hA
      rw [hx] at Ak
      have YO:=Ak.mono q2.le
      obtain ⟨cs,w1,w2,w3⟩:=k3 (kX X::T1) (.head _) g1 _ w _ q1 TR YO
      have JI:∃b s,g1.cn X.id=some (some b,s)∧a.eval x = .pointer (some ⟨b,fg π,none⟩):=YO.pl rfl
      have qq:=beq_eq RB
      have st:=HW (P:=P) ho hk.ti.size q1 JI (z2 _ q3) (by rw [cQ,qq]) w1 (by rw [←qq];exact w2)
      rw [←w3,Mg y_] at st
      exact (st.pre q2) next Q K'
    ·cases hr
   ·cases hr
  ·cases hr
 ·cases hr
def sa (x:jJ) (h:H) (k:Nat→H→Option β):Option β:=g_ h.t h.bF (some x) (fun t1=>k h.bF { h with t:=t1,bF:=h.bF+1 })
theorem jS {x:jJ} {k:Nat→H→Option β} (hr:sa x h k=some r):∃h',k h.bF h'=some r∧h.bF<16777216∧(hp h).fr h.bF∧hp h'=app [.new h.bF x.low] (hp h):=by
 obtain ⟨hq,t1,k1,k2⟩:=cp hr
 have hq:h.bF<16777216:=GD hq
 refine ⟨_,k1,hq,?_,JK hq k2⟩
 have e:(if h.bF<dJ then h.bF≤h.bF else iM h.rg h.bF)=(h.bF≤h.bF):=if_pos hq
 show (if h.bF<dJ then h.bF≤h.bF else iM h.rg h.bF)
 rw [e];exact Nat.le_refl _
theorem qN {S:Hp} {T:TypeId} {i:TypeInfo} {z:Value} {q:Nat} {zs:List A} (ho:o.op = .alloc T) (hi:P.info? T=some i) (hz:i.zero=some z) (YK:Zs zs z) (hf:S.fr q) :
  gJ P o ρ S (S.new q (.cells zs)) (.ptr q 0):=by
 intro g w a next Q hI hv K
 have hzs:=YK g
 obtain ⟨h1,h2⟩:=hI.pN hf (cs:=zs) (vs:=z.cells) T (by have:=hzs.1;simp at this ⊢;omega) hzs.all
 unfold Oper.wp
 simp only [execOp,ho,Instr.alloc,Sem.run_bind,zeroValue,typeInfo,run_program,Result.andThen_ok,hi,hz,Sem.run_pure,newVar,newRow,run_newObj]
 exact K _ _ _ (.ptr _ _ w.heap.size _ dG) h1 h2
theorem V.IF {g:G} {q:Nat} {v:Value} (hv:V g (.ptr q 0) v):V g (.tp (.loc q) []) v:=by
 cases hv with
 | ptr _ _ b s hb=>exact .tp (.loc q) [] b s hb trivial
def SM (E:Env) (T:Nat) (h:H) (K:A→H→Fp→Option β):Option β:=match dx E.fm T with
 | some e=>bif e.lt then (match e.t with
  | some t=>sa (.one t t.dO) h (fun q h'=>K (.tp (.loc q) []) h' (.wr [fT q]))
  | none=>none) else sa (.cells (l9 e.zero)) h (fun q h'=>K (.ptr q 0) h' (.wr [fT q]))
 | none=>none
theorem NR (hE:di P E) {T:Nat} (ho:o.op = .alloc T) (hr:SM E T h K=some r):Out P o ρ h K r:=by
 have hd:∀c,o.op≠.defer c:=by rw [ho];intro c e;cases e
 unfold SM at hr
 split at hr
 ·rename_i e ht
  have hk:=hE.fm _ _ ht
  obtain ⟨i,t1,t2,t3,t4,t5,t6⟩:=hk.ti
  cases hl:e.lt with
  | true=>
   rw [hl] at hr;simp only [cond_true] at hr
   split at hr
   ·rename_i t Cu
    obtain ⟨h',k1,hq,hf,hh⟩:=jS hr
    refine ⟨_,_,_,k1,Step.ta (.of _ hh rfl (fun u hu=>by rcases zF.1 hu with rfl;exact aM (o:=h.bF) hq (.head _)) (fun S2 hA=>qN ho t1 t2 (hk.tz t Cu) ((hA _ (aM hq (.head _))).2.2 hf)) hd) (fun g v hv=>hv.IF)⟩
   ·cases hr
  | false=>
   rw [hl] at hr;simp only [cond_false] at hr
   obtain ⟨h',k1,hq,hf,hh⟩:=jS hr
   exact ⟨_,_,_,k1,.of _ hh rfl (fun u hu=>by rcases zF.1 hu with rfl;exact aM (o:=h.bF) hq (.head _)) (fun S2 hA=>qN ho t1 t2 (HF t6) ((hA _ (aM hq (.head _))).2.2 hf)) hd⟩
 ·cases hr
theorem Bh {S:Hp} {T:TypeId} {x:Operand} {ps qs:List A} {q:Nat} (ho:o.op = .box T x) (hx:(ρ x).cells=some ps) (hq:∀g vs,Vs g ps vs→Vs g qs vs) (hf:S.fr q):gJ P o ρ S (S.new q (.cells qs)) (.ptr q 0):=by
 intro g w a next Q hI hv K
 have e2:=hq _ _ ((hv x (by simp [ho,Op.operands])).cells hx)
 obtain ⟨h1,h2⟩:=hI.pN hf (cs:=qs) (vs:=(a.eval x).cells) T (by have:=e2.1;simp at this ⊢;omega) e2.all
 unfold Oper.wp
 simp only [execOp,ho,Instr.box,Sem.run_bind,Result.andThen_ok,Sem.run_pure,newVar,newRow,run_newObj]
 exact K _ _ _ (.ptr _ _ w.heap.size _ dG) h1 h2
def KM (E:Env) (T:Nat) (px:A) (h:H) (K:A→H→Fp→Option β):Option β:=match dx E.fm T,px.cells with
 | some e,some ps=>bif e.lt then (match e.t with
  | some t=>match sV t ps with
   | some x=>sa (.one t x) h (fun q h'=>K (.tp (.loc q) []) h' (.wr [fT q]))
   | none=>none
  | none=>none) else sa (.cells ps) h (fun q h'=>K (.ptr q 0) h' (.wr [fT q]))
 | _,_=>none
theorem KL {T:Nat} {x:Operand} (ho:o.op = .box T x) (hr:KM E T (ρ x) h K=some r):Out P o ρ h K r:=by
 have hd:∀c,o.op≠.defer c:=by rw [ho];intro c e;cases e
 unfold KM at hr
 split at hr
 ·rename_i e ps ht xf
  cases hl:e.lt with
  | true=>
   rw [hl] at hr;simp only [cond_true] at hr
   split at hr
   ·rename_i t Cu
    split at hr
    ·rename_i y hy
     obtain ⟨h',k1,hq,hf,hh⟩:=jS hr
     exact ⟨_,_,_,k1,Step.ta (.of _ hh rfl (fun u hu=>by rcases zF.1 hu with rfl;exact aM (o:=h.bF) hq (.head _)) (fun S2 hA=>Bh ho xf (fun g vs hv=>(lH t ps y hy).2 vs hv) ((hA _ (aM hq (.head _))).2.2 hf)) hd) (fun g v hv=>hv.IF)⟩
    ·cases hr
   ·cases hr
  | false=>
   rw [hl] at hr;simp only [cond_false] at hr
   obtain ⟨h',k1,hq,hf,hh⟩:=jS hr
   exact ⟨_,_,_,k1,.of _ hh rfl (fun u hu=>by rcases zF.1 hu with rfl;exact aM (o:=h.bF) hq (.head _)) (fun S2 hA=>Bh ho xf (fun g vs hv=>hv) ((hA _ (aM hq (.head _))).2.2 hf)) hd⟩
 ·cases hr
end
end
section
open Go.RowKit
section
variable {P:Program} {E:Env} {o:Oper} {ρ:Operand→A} {h:H} {β:Type} {K:A→H→Fp→Option β} {r:β}
def SJ (E:Env) (T:Nat) (ρ:Operand→A) (ps:List (Nat×Operand)) (h:H) (K:A→H→Fp→Option β):Option β:=match dx E.fm T with
 | some e=>match e.d with
  | .struct _=>match wk ρ (fun i=>e.pl.toArray[i]?) (l9 e.zero) ps with
   | some cs=>K (.agg cs) h .no
   | none=>none
  | .array _ el=>match dx E.fm el with
   | some e'=>match wk ρ (fun i=>some (i*e'.size,e'.size)) (l9 e.zero) ps with
    | some cs=>K (.agg cs) h .no
    | none=>none
   | none=>none
  | _=>none
 | none=>none
theorem NK (hE:di P E) {T:Nat} {ps:Array (Nat×Operand)} (ho:o.op = .build T ps) (hr:SJ E T ρ ps.toList h K=some r):Out P o ρ h K r:=by
 have hd:∀c,o.op≠.defer c:=by rw [ho];intro c e;cases e
 unfold SJ at hr
 split at hr
 ·rename_i e ht
  have hk:=hE.fm _ _ ht
  split at hr
  ·rename_i fs Hw
   split at hr
   ·rename_i cs hf
    obtain ⟨i,t1,t2,t3,t4,t5,t6⟩:=hk.ti
    exact .pure hr (fun S2=>Gq ho (by rw [hk.u,Hw]) t1 t2 t6 (hk.pl fs Hw) hf) hd
   ·cases hr
  ·rename_i n el Hw
   split at hr
   ·rename_i e' he'
    split at hr
    ·rename_i cs hf
     exact .pure hr (fun S2=>xa ho (by rw [hk.u,Hw]) hk.ti (hE.fm _ _ he').ti.size hf) hd
    ·cases hr
   ·cases hr
  ·cases hr
 ·cases hr
def J_ (f:List A→H→Option (List A×H×List Nat)) (z:Nat):Nat→List A→H→Option (List A×H×List Nat)
 | 0,cs,h=>some (cs,h,[])
 | n+1,cs,h=>match f (cs.take z) h with
  | some (Fu,h1,T1)=>match J_ f z n (cs.drop z) h1 with
   | some (Qx,h2,T2)=>some (Fu++Qx,h2,T1++T2)
   | none=>none
  | none=>none
theorem E9 {f:List A→H→Option (List A×H×List Nat)} (hf:∀cs h kq h' T,f cs h=some (kq,h',T)→Cv h h' T cs kq) {z:Nat}:∀(n:Nat) (cs:List A) (h:H) (kq:List A) (h':H) (T:List Nat),J_ f z n cs h=some (kq,h',T)→Cv h h' T cs kq
 | 0,cs,h,kq,h',T,e=>by
  simp only [J_,zI,zU] at e
  obtain ⟨rfl,rfl,rfl⟩:=e
  exact Cv.refl h [] _
 | n+1,cs,h,kq,h',T,e=>by
  simp only [J_] at e
  split at e
  ·rename_i Fu h1 T1 e1
   split at e
   ·rename_i Qx h2 T2 e2
    simp only [zI,zU] at e
    obtain ⟨rfl,rfl,rfl⟩:=e
    have:=(hf _ _ _ _ _ e1).append (E9 hf n _ _ _ _ _ e2)
    rwa [zP] at this
   ·cases e
  ·cases e
theorem qG {pv:A} {S:Hp} {T El:TypeId} {n z:Nat} {parts:Array (Nat×Operand)} {ie:TypeInfo} {zv:Value} {es cs:List A} {q:Nat} {g g0:G} {w:World} {a:Act} (ho:o.op = .buildSlice T n parts) (hT:P.underlying T=some (.slice El)) (hE:P.info? El=some ie) (hz:ie.zero=some zv)
  (hs:ie.size=z) (h0:0<z) (hn:n*z≤16777216) (oJ:Kr ρ z parts.toList 0=some es) (hl:parts.toList.length=n) (hI:Inv g S w) (hv:∀x∈o.op.operands,V g0 (ρ x) (a.eval x)) (hf:S.fr q) (e5:Vs g cs ((parts.toList.map fun x=>a.eval x.2).flatMap (fun v=>v.cells.toList)))
  (uB:∀g' b,g'.cn q=some (some b,(n*z,n*z))→n≤maxLen→V g' pv (.slice (some ⟨b,0,none⟩) n n)):xq P o S (S.new q (.cells cs)) pv g w a:=by
 intro next Q K
 subst hs
 obtain ⟨e2,e1,e3,e4⟩:=uV (z:=ie.size) (a:=a) (g:=g0) parts.toList 0 es (fun x hx=>hv x.2 (by
  simp only [ho,Op.operands]
  rw [List.mem_toArray]
  exact List.mem_map.2 ⟨x,hx,rfl⟩)) oJ
 have RB:((Array.range (n*ie.size)).map (zv.cells[· % zv.cells.size]!)).size=n*ie.size:=by simp
 have Y_:=Go.Great.fill_whole h0 (parts.toList.map fun x=>a.eval x.2) ((Array.range (n*ie.size)).map (zv.cells[· % zv.cells.size]!)) e3 (by simp only [zH];rw [RB,hl])
 have vQ:(parts.map fun (i,x)=>(i,a.eval x)).toList=((parts.toList.map fun x=>a.eval x.2).zipIdx 0).map (fun x=>(x.2,x.1)):=by rw [←e2];simp
 generalize Ht:(parts.toList.map fun x=>a.eval x.2).flatMap (fun v=>v.cells.toList)=vs at *
 have hvl:vs.length=n*ie.size:=by rw [←e4.1,e1,hl]
 obtain ⟨h1,h2⟩:=hI.pN hf (cs:=cs) (vs:=vs.toArray) El (by have:=e5.1;simp;omega) (Vs.all (vs:=vs.toArray) e5)
 have hmx:n≤n*ie.size:=Nat.le_mul_of_pos_right _ h0
 have h8:cs.length=n*ie.size:=by rw [e5.1,hvl]
 have h9:vs.toArray.size=n*ie.size:=by simp [hvl]
 have uB:=uB (lV g q (some w.heap.size,(cs.length,vs.toArray.size))) w.heap.size (by rw [dG,h8,h9]) (by simp only [maxLen];omega)
 unfold Oper.wp
 by_cases RI:n=0
 ·subst RI
  have hpe:parts.toList=[]:=zZ hl
  have ad8:vs=[]:=zZ (by rw [hvl];simp)
  have hp3:parts = #[]:=by apply Array.ext';simp [hpe]
  have iO:(execOp a.eval o).run P w = .ok (.value (.slice (some ⟨w.heap.size,0,none⟩) 0 0)) (w.alloc (.cells #[] El)):=by
   simp [execOp,ho,hp3,Instr.buildSlice,run_underlying hT,sizeOf,typeInfo,hE,Instr.fill,newRow,Array.range_zero']
  rw [iO]
  subst ad8
  exact K (.slice (some ⟨w.heap.size,0,none⟩) 0 0) _ _ uB h1 h2
 ·have RE:¬n*ie.size=0:=by
   intro h;rcases Nat.mul_eq_zero.1 h with h | h<;>omega
  have iO:(execOp a.eval o).run P w = .ok (.value (.slice (some ⟨w.heap.size,0,none⟩) n n)) (w.alloc (.cells vs.toArray El)):=by
   have:=run_buildSlice (P:=P) w T El n (parts.map fun (i,x)=>(i,a.eval x)) vs.toArray ie zv hT hE hz (by omega) RE (by rw [vQ];exact Y_)
   simp only [execOp,ho,Sem.run_bind,this,Result.andThen_ok,Sem.run_pure]
  rw [iO]
  exact K _ _ _ uB h1 h2
def SG (E:Env) (T n:Nat) (ρ:Operand→A) (ps:List (Nat×Operand)) (h:H) (K:A→H→Fp→Option β):Option β:=match dx E.fm T with
 | some ⟨.slice el,_,_,_,_,_,_⟩=>match dx E.fm el with
  | some e=>bif Nat.blt 0 e.size && Nat.ble (n*e.size) 16777216 && Nat.beq ps.length n then (match Kr ρ e.size ps 0,e.t with
   | some es,some t=>match J_ (fixC 64 t) t.size n es h with
    | some (sY,h1,T1)=>match xx (sV t) t.size n sY with
     | some l=>sa (.row t l) h1 (fun q h2=>K (.tw (.loc q) e.size) h2 (.wr (fT q::T1)))
     | none=>none
    | none=>none
   | some es,none=>sa (.cells es) h (fun q h2=>K (.sl q 0 e.size n) h2 (.wr [fT q]))
   | _,_=>none) else none
  | none=>none
 | _=>none
theorem Step.new {T1:List Nat} {h1 h2:H} {us:List Up} {x:Ob} {pv:A} (c1:hp h1=app us (hp h)) (c2:∀u∈us,aR (.wr T1) u.id=true) (hq:h1.bF<16777216) (hf:(hp h1).fr h1.bF) (hh:hp h2=app [.new h1.bF x] (hp h1)) (hd:∀c,o.op≠.defer c)
  (k:∀S2 g w a,bK (.wr T1) (hp h) S2→(app us S2).fr h1.bF→Inv g S2 w→(∀x∈o.op.operands,V g (ρ x) (a.eval x))→xq P o S2 ((app us S2).new h1.bF x) pv g w a):Step P o ρ h h2 (.wr (fT h1.bF::T1)) pv:=
 .of (us++[.new h1.bF x]) (by rw [kM,←c1,hh]) rfl (fun u hu=>by
  rcases zX.1 hu with hu | hu
  ·exact gK (fun i hi=>.tail _ hi) (c2 u hu)
  ·rcases zF.1 hu with rfl;exact aM (o:=h1.bF) hq (.head _)) (fun S2 hA g w a next Q hI hv K'=>by
  have mF:(app us S2).fr h1.bF:=by
   have:=bK.app us hA
   rw [←c1] at this
   exact (this h1.bF (aM hq (.head _))).2.2 hf
  have e:=kM us [.new h1.bF x] S2
  rw [e] at K'
  exact k S2 g w a (hA.mono fun i hi=>.tail _ hi) mF hI hv next Q K') hd
theorem NH (hE:di P E) {T n:Nat} {ps:Array (Nat×Operand)} (ho:o.op = .buildSlice T n ps) (hr:SG E T n ρ ps.toList h K=some r):Out P o ρ h K r:=by
  have hd:∀c,o.op≠.defer c:=by rw [ho];intro c e;cases e
  unfold SG at hr
  split at hr
  · rename_i el _ _ _ _ _ _ ht
    split at hr
    · rename_i e he
      obtain ⟨hc,hr⟩:=ab hr
      simp only [zC] at hc
      have h0:=bU hc.1.1
      have hn:=Nat.le_of_ble_eq_true hc.1.2
      have hl:=beq_eq hc.2
      obtain ⟨i,t1,t2,t3,t4,t5,t6⟩:=(hE.fm _ _ he).ti
      split at hr
      · rename_i es t oJ Cu
        split at hr
        · rename_i sY h1 T1 hf
          split at hr
          · rename_i l hy
            obtain ⟨us,c1,c2,c3⟩:=E9 (fun cs h kq h' T e=>sG _ _ _ _ _ _ _ e) _ _ _ _ _ _ hf
            obtain ⟨h2,k1,hq,mF,hh⟩:=jS hr
            refine ⟨_,_,_,k1,.new c1 c2 hq mF hh hd (fun S2 g w a hA hf hI hv=>?_)⟩
            obtain ⟨e2,e1,e3,e4⟩:=uV (z:=e.size) (a:=a) (g:=g) ps.toList 0 es (fun x hx=>hv x.2 (by
              simp only [ho,Op.operands]
              rw [List.mem_toArray]
              exact List.mem_map.2 ⟨x,hx,rfl⟩)) oJ
            obtain ⟨g1,q1,q2,q3⟩:=c3 g S2 w _ hI hA e4
            obtain ⟨z1,z2,z3⟩:=rG (g:=g1) (fun cs x h=>lH t cs x h) _ _ _ hy
            refine xq.pre ?_ q2
            refine qG (g0:=g) ho (hE.fm _ _ ht).u t1 t2 t3 h0 hn oJ hl q1 hv hf ?_ (fun g' b hb hx=>.tw (.loc h1.bF) e.size n b n _ hb (Nat.le_refl _) hx (Nat.le_refl _) 0 (fun _=>rfl))
            exact z3 _ q3
          · cases hr
        · cases hr
      · rename_i es oJ Cu
        obtain ⟨h2,k1,hq,mF,hh⟩:=jS hr
        refine ⟨_,_,_,k1,.of _ hh rfl (fun u hu=>by rcases zF.1 hu with rfl;exact aM (o:=h.bF) hq (.head _)) (fun S2 hA g w a next Q hI hv K'=>?_) hd⟩
        obtain ⟨e2,e1,e3,e4⟩:=uV (z:=e.size) (a:=a) (g:=g) ps.toList 0 es (fun x hx=>hv x.2 (by
              simp only [ho,Op.operands]
              rw [List.mem_toArray]
              exact List.mem_map.2 ⟨x,hx,rfl⟩)) oJ
        exact qG (g0:=g) ho (hE.fm _ _ ht).u t1 t2 t3 h0 hn oJ hl hI hv ((hA _ (aM hq (.head _))).2.2 mF) e4 (fun g' b hb hx=>.sl h.bF 0 e.size n b n _ hb (Nat.le_refl _) hx (by omega)) next Q K'
      · cases hr
    · cases hr
  · cases hr
end
end
section
open Go.RowKit
section
variable {P:Program} {E:Env} {o:Oper} {ρ:Operand→A} {h:H} {β:Type} {K:A→H→Fp→Option β} {r:β}
theorem V.tX {g:G} {S:Hp} {w:World} (hI:Inv g S w) {X:Ref} {t:Ty} {l:List t.T} (h0:0<t.size) (ho:S.ob X.id=some (.cells (l.flatMap (aJ t)))) {v:Value} (hv:V g (.tw X t.size) v) :
  (∃ad,g.cn X.id=some (none,(0,0))∧v = .slice ad 0 0∧l=[])∨∃b s cap d,g.cn X.id=some (some b,s)∧v = .slice (some ⟨b,d,none⟩) l.length cap∧(cap≠0→d=0)∧l.length≤cap∧cap≤maxLen∧cap*t.size≤s.2:=by
 have hlen:=bT t l
 cases hv with
 | Ai _ _ ad cR=>
  rcases hI.cells _ _ ho with ⟨_,k2⟩ | ⟨b,tt,k1,_⟩
  ·refine .inl ⟨ad,cR,rfl,zZ ?_⟩
   rw [k2] at hlen
   rcases Nat.eq_zero_or_pos l.length with h | h
   ·exact h
   ·have:0<l.length*t.size:=Nat.mul_pos h h0
    simp at hlen;omega
  ·rw [k1] at cR;cases cR
 | tw _ _ m b cap tt cR hn su hp d qt=>
  rcases hI.cells _ _ ho with ⟨k1,_⟩ | ⟨b',LL,k1,_⟩
  ·rw [k1] at cR;cases cR
  have RT:=cR
  rw [k1] at cR
  simp only [zI,zU] at cR
  obtain ⟨rfl,hl,rfl⟩:=cR
  rw [hlen] at hl
  have hm:l.length=m:=Nat.eq_of_mul_eq_mul_right h0 hl
  subst hm
  exact .inr ⟨b',_,cap,d,RT,rfl,qt,hn,su,hp⟩
def YF (h:H) (px:A) (k:Nat→List Nat→Option β):Option β:=match px with
 | .e0=>k 0 []
 | .v (.slice _ n _)=>k n []
 | .tl _ _ l=>k (len l) []
 | .tw X z=>kY h X (fun t l=>bif Nat.beq z t.size && Nat.blt 0 t.size then k (len l) [kX X] else none)
 | .ts _ _ _ n=>k n []
 | .tf _ _ _ n=>k n []
 | .aa _ _ n _=>k n []
 | .sl _ _ _ n=>k n []
 | _=>none
theorem V.Wm {g:G} {t:Ty} {f:Bool} {l:List t.T} {v:Value} (hv:V g (.tl t f l) v):∃ad c,v = .slice ad l.length c:=by
 cases hv with
 | tl _ _ _ _ hd=>
  generalize oJ:List.map (eH t) l=es at hd
  have tJ:es.length=l.length:=by rw [←oJ,zH]
  cases hd with
  | wR=>rw [←tJ];exact ⟨_,_,rfl⟩
  | sl _ _ _ a cap vs=>rw [←tJ];exact ⟨_,_,rfl⟩
theorem MG {px:A} {k:Nat→List Nat→Option β} (hr:YF h px k=some r):∃n T,k n T=some r∧∀S2,bK (.rd T) (hp h) S2→∀g w v,Inv g S2 w→V g px v→∃ad c,v = .slice ad n c:=by
 cases px with
 | e0=>exact ⟨0,[],hr,fun S2 _ g w v _ hv=>by cases hv with | e0 ad=>exact ⟨ad,0,rfl⟩⟩
 | v x=>cases x with
  | slice ad n c=>exact ⟨n,[],hr,fun S2 _ g w v _ hv=>by cases hv;exact ⟨_,_,rfl⟩⟩
  | _=>cases hr
 | tl t f l=>exact ⟨len l,[],hr,fun S2 _ g w v _ hv=>hv.Wm⟩
 | tw X z=>
  obtain ⟨t,l,hr,hX,fQ⟩:=gq (show kY h X _=some r from hr)
  obtain ⟨h1,hk⟩:=ab hr
  simp only [zC] at h1
  obtain rfl:=beq_eq h1.1
  exact ⟨_,_,hk,fun S2 hA g w v hI hv=>by
   rcases hv.tX hI (bU h1.2) ((hA _ (cF hX (.head _))).1.trans fQ) with ⟨ad,_,rfl,rfl⟩ | ⟨b,s,cap,d,_,rfl,_⟩
   ·exact ⟨ad,0,rfl⟩
   ·exact ⟨_,cap,rfl⟩⟩
 | ts X z off n=>exact ⟨n,[],hr,fun S2 _ g w v _ hv=>by
   cases hv with
   | xv _ _ _ _ ad _ hn=>exact ⟨ad,0,by rw [show n=0 by omega]⟩
   | ts=>exact ⟨_,_,rfl⟩⟩
 | tf X z off n=>exact ⟨n,[],hr,fun S2 _ g w v _ hv=>by
   cases hv with
   | HU _ _ _ _ ad _ hn=>exact ⟨ad,0,by rw [show n=0 by omega]⟩
   | tf=>exact ⟨_,_,rfl⟩⟩
 | aa X π n z=>exact ⟨n,[],hr,fun S2 _ g w v _ hv=>by cases hv;exact ⟨_,_,rfl⟩⟩
 | sl q off z n=>exact ⟨n,[],hr,fun S2 _ g w v _ hv=>by cases hv;exact ⟨_,_,rfl⟩⟩
 | _=>cases hr
def Dk (E:Env) (T:Nat):Option Nat:=match dx E.fm T with
 | some ⟨.slice el,_,_,_,_,_,_⟩=>some el
 | _=>none
theorem ss (hE:di P E) {T el:Nat} (h:Dk E T=some el):P.underlying T=some (.slice el):=by
 unfold Dk at h
 split at h
 ·rename_i ht;cases h;exact (hE.fm _ _ ht).u
 ·cases h
def Ro (E:Env) (T:Nat) (px:A) (h:H) (K:A→H→Fp→Option β):Option β:=match Dk E T with
 | some _=>YF h px (fun n T=>K (.v (.int .i64 (zN n))) h (.rd T))
 | none=>none
theorem MF (hE:di P E) {T:Nat} {x:Operand} (ho:o.op = .call { callee:=.builtin .len,args:=#[x],argTypes:=#[T] }) (hr:Ro E T (ρ x) h K=some r):Out P o ρ h K r:=by
 unfold Ro at hr
 split at hr
 ·rename_i el he
  obtain ⟨n,T',h1,h2⟩:=MG hr
  exact .read _ h1 (fun S2 hA=>Mk ho ⟨el,ss hE he⟩ (h2 S2 hA)) (by rw [ho];intro c e;cases e)
 ·cases hr
def tM {α:Type} (d:α) (n:Nat) (l:List α):List α:=(List.range n).map (nth d l)
theorem G0 {α β:Type} (f:α→List β) (d:α) (n:Nat) (l:List α):(tM d n l).flatMap f=KP f d n l:=by
 unfold tM KP
 rw [List.flatMap_map]
theorem Ka {α:Type} (d:α) (n:Nat) (l:List α):(tM d n l).length=n:=by simp [tM]
def FM (h:H) (t:Ty) (py:A) (k:List t.T→List Nat→Option β):Option β:=match py with
 | .e0=>k [] []
 | .v (.slice _ 0 _)=>k [] []
 | .tl t' _ l=>match iz (.cB t') (.cB t) l with
  | some l'=>bif t.data then k l' [] else none
  | none=>none
 | .nn t' l=>match iz (.cB t') (.cB t) l with
  | some l'=>bif t.data then k l' [] else none
  | none=>none
 | .os r z o=>opt o (k [] []) (fun j=>kY h (.cT r j) (fun t' l=>match iz (.cB t') (.cB t) l with
  | some l'=>bif Nat.beq z t.size && Nat.blt 0 t.size then k l' [kX (.cT r j)] else none
  | none=>none))
 | .tw X z=>kY h X (fun t' l=>match iz (.cB t') (.cB t) l with
  | some l'=>bif Nat.beq z t.size && Nat.blt 0 t.size then k l' [kX X] else none
  | none=>none)
 | .ts X z off n=>kY h X (fun t' l=>match iz (.cB t') (.cB t) l with
  | some l'=>bif Nat.beq z t.size && Nat.blt 0 t.size then k (tk n (dr off l')) [kX X] else none
  | none=>none)
 | .tf X z off n=>kY h X (fun t' l=>match iz (.cB t') (.cB t) l with
  | some l'=>bif Nat.beq z t.size && Nat.blt 0 t.size then k (tk n (dr off l')) [kX X] else none
  | none=>none)
 | .aa X π n z=>vt h X π (fun sg=>match iz sg.t (.arr n t) sg.x with
  | some l=>bif Nat.beq z t.size then k (tM t.dO n l) [kX X] else none
  | none=>none)
 | .sl q off z n=>match h.t.get q with
  | some (.cells cs)=>bif Nat.blt q 16777216 && Nat.beq z t.size && Nat.ble (off+n*z) cs.length then (match xx (sV t) t.size n ((cs.drop off).take (n*z)) with
   | some l=>k l [fT q]
   | none=>none) else none
  | _=>none
 | _=>none
theorem Given.conv {g:G} {w:World} {v:Value} {sz m:Nat} {ps qs:List A} (k:Given g w v sz m ps) (hc:∀vs,Vs g ps vs→Vs g qs vs):Given g w v sz m qs:=by
 obtain ⟨A2,oQ,us,h1,h2,h3,h4⟩:=k
 exact ⟨A2,oQ,us,h1,hc _ h2,h3,h4⟩
theorem V.Ef {g:G} {S:Hp} {w:World} (hI:Inv g S w) {t:Ty} (hd:t.data=true) {f:Bool} {l:List t.T} {v:Value} (hv:V g (.tl t f l) v):Given g w v t.size l.length (l.flatMap (aJ t)):=by
 cases hv with
 | tl _ _ _ _ hv=>
  generalize oJ:List.map (eH t) l=es at hv
  have tJ:es.length=l.length:=by rw [←oJ,zH]
  have xY:es.flatten=l.flatMap (eH t):=by rw [←oJ,nB]
  cases hv with
  | wR=>
   have:l=[]:=zZ tJ.symm
   subst this
   exact .zero ⟨_,_,rfl⟩
  | sl _ _ _ a cap vs hz hc hf hn hx hl hm Ll=>
   rw [xY] at Ll hl
   have Ht:nh g.mem (l.flatMap (eH t)) vs:=⟨hl,Ll⟩
   have h1:=J9 (g:=g) (f:=aJ t) (f':=eH t) (fun x us hu=>nh.cells t x us hd hu) (fun x=>by rw [cQ,fO]) l vs Ht
   rw [tJ]
   refine ⟨_,cap,vs,rfl,h1,by rw [←h1.1,bT],fun h0=>?_⟩
   cases a with
   | none=>have:=hn rfl;omega
   | some p=>
    refine ⟨_,rfl,fun j x hj=>?_⟩
    obtain ⟨cur,ty,fz,q1,q2⟩:=hI.mem _ _ _ (hm p j x rfl hj)
    rw [show (adr p).add j=⟨p.1,p.2+j,none⟩ from Addr.add_lit _ _ _,cell_of_row w p.1 _ cur ty _ q1];exact q2
theorem piece {g:G} {S:Hp} {w:World} (hI:Inv g S w) {X:Ref} {t:Ty} {l:List t.T} {off n b cap d:Nat} {s:Nat×Nat} (_h0:0<t.size) (fQ:S.ob X.id=some (.cells (l.flatMap (aJ t)))) (cR:g.cn X.id=some (some b,s)) (hle:off+n≤l.length) (hd:n≠0→d=off*t.size) :
  Given g w (.slice (some ⟨b,d,none⟩) n cap) t.size (tk n (dr off l)).length ((tk n (dr off l)).flatMap (aJ t)):=by
 have hl:(tk n (dr off l)).length=n:=by simp [tk,dr];omega
 rw [hl]
 rcases Nat.eq_zero_or_pos n with h0 | h0
 ·subst h0
  rw [show tk 0 (dr off l)=[] from by simp [tk]]
  exact .zero ⟨_,cap,rfl⟩
 ·obtain rfl:=hd (by omega)
  have:=hI.given (off:=off*t.size) (sz:=t.size) (m:=n) (cap:=cap) fQ cR (by rw [bT,←Nat.add_mul];exact zW _ hle)
  rw [lf] at this
  exact this
theorem Ei {t:Ty} {py:A} {k:List t.T→List Nat→Option β} (hr:FM h t py k=some r):∃l T,k l T=some r∧∀S2,bK (.rd T) (hp h) S2→∀g w v,Inv g S2 w→V g py v→Given g w v t.size l.length (l.flatMap (aJ t)):=by
 cases py with
 | e0=>exact ⟨[],[],hr,fun S2 _ g w v _ hv=>by cases hv with | e0 ad=>exact .zero ⟨ad,0,rfl⟩⟩
 | v x=>cases x with
  | slice ad n c=>cases n with
   | zero=>exact ⟨[],[],hr,fun S2 _ g w v _ hv=>by cases hv;exact .zero ⟨_,_,rfl⟩⟩
   | succ n=>cases hr
  | _=>cases hr
 | tl t' f l=>
  unfold FM at hr
  simp only at hr
  split at hr
  ·rename_i l' hl
   obtain ⟨e,rfl⟩:=du hl
   cases e
   obtain ⟨h1,hr⟩:=ab hr
   exact ⟨_,[],hr,fun S2 _ g w v hI hv=>hv.Ef hI h1⟩
  ·cases hr
 | nn t' l=>
  unfold FM at hr
  simp only at hr
  split at hr
  ·rename_i l' hl
   obtain ⟨e,rfl⟩:=du hl
   cases e
   obtain ⟨h1,hr⟩:=ab hr
   exact ⟨_,[],hr,fun S2 _ g w v hI hv=>by cases hv with | nn _ _ a n c h=>exact (V.tl _ false _ _ h).Ef hI h1⟩
  ·cases hr
 | os q z o=>
  rcases kF (show opt o (k [] []) _=some r from hr) with ⟨e0,hr⟩ | ⟨jj,e0,hr⟩
  ·exact ⟨[],[],hr,fun S2 _ g w v _ hv=>by
    cases hv with
    | os _ _ _ _ h0 _=>cases h0 e0 with | e0 ad=>exact .zero ⟨ad,0,rfl⟩⟩
  ·obtain ⟨t',l,hr,hX,fQ⟩:=gq (show kY h (.cT q jj) _=some r from hr)
   split at hr
   ·rename_i l' hl
    obtain ⟨e,rfl⟩:=du hl
    cases e
    obtain ⟨h1,hk⟩:=ab hr
    simp only [zC] at h1
    have ez:=beq_eq h1.1
    subst ez
    refine ⟨_,_,hk,fun S2 hA g w v hI y9=>?_⟩
    have hv:V g (.tw (.cT q jj) t.size) v:=by cases y9 with | os _ _ _ _ _ h1=>exact h1 jj e0
    have fN:=(hA _ (cF hX (.head _))).1.trans fQ
    rcases hv.tX hI (bU h1.2) fN with ⟨ad,_,rfl,rfl⟩ | ⟨b,s,cap,d,cR,rfl,hd,hn,_⟩
    ·exact .zero ⟨ad,0,rfl⟩
    ·rcases Nat.eq_zero_or_pos l.length with h0 | h0
     ·have:l=[]:=zZ h0
      subst this
      exact .zero ⟨_,cap,rfl⟩
     ·obtain rfl:=hd (by omega)
      have:=hI.given (off:=0) (sz:=t.size) (m:=l.length) (cap:=cap) fN cR (by rw [bT];omega)
      rw [List.drop_zero,za (by rw [bT];exact Nat.le_refl _)] at this
      exact this
   ·cases hr
 | tw X z=>
  obtain ⟨t',l,hr,hX,fQ⟩:=gq (show kY h X _=some r from hr)
  split at hr
  ·rename_i l' hl
   obtain ⟨e,rfl⟩:=du hl
   cases e
   obtain ⟨h1,hk⟩:=ab hr
   simp only [zC] at h1
   obtain rfl:=beq_eq h1.1
   refine ⟨_,_,hk,fun S2 hA g w v hI hv=>?_⟩
   have fN:=(hA _ (cF hX (.head _))).1.trans fQ
   rcases hv.tX hI (bU h1.2) fN with ⟨ad,_,rfl,rfl⟩ | ⟨b,s,cap,d,cR,rfl,hd,hn,_⟩
   ·exact .zero ⟨ad,0,rfl⟩
   ·rcases Nat.eq_zero_or_pos l.length with h0 | h0
    ·have:l=[]:=zZ h0
     subst this
     exact .zero ⟨_,cap,rfl⟩
    ·obtain rfl:=hd (by omega)
     have:=hI.given (off:=0) (sz:=t.size) (m:=l.length) (cap:=cap) fN cR (by rw [bT];omega)
     rw [List.drop_zero,za (by rw [bT];exact Nat.le_refl _)] at this
     exact this
  ·cases hr
 | ts X z off n=>
  obtain ⟨t',l,hr,hX,fQ⟩:=gq (show kY h X _=some r from hr)
  split at hr
  ·rename_i l' hl
   obtain ⟨e,rfl⟩:=du hl
   cases e
   obtain ⟨h1,hk⟩:=ab hr
   simp only [zC] at h1
   obtain rfl:=beq_eq h1.1
   refine ⟨_,_,hk,fun S2 hA g w v hI hv=>?_⟩
   have fN:=(hA _ (cF hX (.head _))).1.trans fQ
   have hle:=xu hI (bU h1.2) fN hv
   cases hv with
   | xv _ _ _ _ ad _ hn=>
    rw [show n=0 by omega,show tk 0 (dr off l)=[] by simp [tk]]
    exact .zero ⟨ad,0,rfl⟩
   | ts _ _ _ _ b cap s cR hn hx hs RF d hd=>exact piece hI (bU h1.2) fN cR hle (fun RI=>hd (by omega))
  ·cases hr
 | tf X z off n=>
  obtain ⟨t',l,hr,hX,fQ⟩:=gq (show kY h X _=some r from hr)
  split at hr
  ·rename_i l' hl
   obtain ⟨e,rfl⟩:=du hl
   cases e
   obtain ⟨h1,hk⟩:=ab hr
   simp only [zC] at h1
   obtain rfl:=beq_eq h1.1
   refine ⟨_,_,hk,fun S2 hA g w v hI hv=>?_⟩
   have fN:=(hA _ (cF hX (.head _))).1.trans fQ
   cases hv with
   | HU _ _ _ _ ad _ hn=>
    rw [show n=0 by omega,show tk 0 (dr off l)=[] by simp [tk]]
    exact .zero ⟨ad,0,rfl⟩
   | tf _ _ _ _ b s cR hx hs d hd=>
    have hle:off+n≤l.length:=by
     rcases hI.cells _ _ fN with ⟨k1,_⟩ | ⟨b',LL,k1,_⟩
     ·rw [k1] at cR;cases cR
     rw [k1] at cR
     simp only [zI,zU] at cR
     obtain ⟨_,rfl⟩:=cR
     simp only [bT] at hs
     exact Nat.le_of_mul_le_mul_right hs (bU h1.2)
    exact piece hI (bU h1.2) fN cR hle hd
  ·cases hr
 | aa X π n z=>
  obtain ⟨sg,hk,hX,h2⟩:=xJ (show vt h X π _=some r from hr)
  split at hk
  ·rename_i l hl
   obtain ⟨st,sx⟩:=sg
   obtain ⟨e,hl⟩:=du hl
   simp only at e hl h2
   subst e
   simp only at hl
   subst hl
   obtain ⟨h1,hk⟩:=ab hk
   refine ⟨_,_,hk,fun S2 hA g w v hI hv=>?_⟩
   obtain rfl:=beq_eq h1
   cases hv with
   | aa _ _ _ _ b cap s cR hp hn hx=>
    have ha:=hA _ (cF hX (.head _))
    obtain ⟨a,c,q1,q2⟩:=h2 g _ w _ hI ha.1 ha.2 (.tp X π b s cR hp)
    have e1:(tM (α:=t.T) t.dO n sx).flatMap (aJ t)=aJ (.arr n t) sx:=G0 _ _ _ _
    have e3:(tM (α:=t.T) t.dO n sx).length=n:=Ka _ _ _
    have e2:(aJ (.arr n t) sx).length=n*t.size:=cQ (.arr n t) sx
    have:=hI.given (off:=fg π) (sz:=t.size) (m:=n) (cap:=cap) q1 cR (by simp only [zY];rw [e2];omega)
    rw [←q2,List.drop_left,←e2,List.take_left,q2] at this
    exact Eq.subst (motive:=fun k=>Given g w _ t.size k _) e3.symm (Eq.subst (motive:=fun cs=>Given g w _ t.size n cs) e1.symm this)
  ·cases hk
 | sl q off z n=>
  unfold FM at hr
  simp only at hr
  split at hr
  ·rename_i cs hg
   obtain ⟨h1,hr⟩:=ab hr
   simp only [zC] at h1
   have hq:=bU h1.1.1
   obtain rfl:=beq_eq h1.1.2
   split at hr
   ·rename_i l hy
    refine ⟨_,_,hr,fun S2 hA g w v hI hv=>?_⟩
    obtain ⟨z1,z2,z3⟩:=rG (g:=g) (fun cs x h=>lH t cs x h) _ _ _ hy
    have fQ:(hp h).ob q=some (.cells cs):=by rw [mm hq];unfold ir;rw [hg];rfl
    cases hv with
    | sl _ _ _ _ b cap s cR hn hx hs=>
     rw [z2]
     exact (hI.given ((hA q (aM hq (.head _))).1.trans fQ) cR (Nat.le_of_ble_eq_true h1.2)).conv z3
   ·cases hr
  ·cases hr
 | _=>cases hr
end
end
section
open Go.RowKit
section
variable {P:Program} {E:Env} {o:Oper} {ρ:Operand→A} {h:H} {β:Type} {K:A→H→Fp→Option β} {r:β}
theorem AU (t:Ty) (n:Nat) (x:t.T):(rep n x).flatMap (aJ t)=tj n (aJ t x):=by
 unfold rep tj
 induction n with
 | zero=>rfl
 | succ n ih=>rw [List.replicate_succ,List.replicate_succ,List.flatMap_cons,List.flatten_cons,ih]
def mkK (E:Env) (T:Nat) (same:Bool) (px:A) (h:H) (K:A→H→Fp→Option β):Option β:=match Dk E T with
 | some el=>match dx E.fm el,px with
  | some e,.v (.int _ m)=>match e.t with
   | some t=>bif same && Nat.blt 0 e.size && Nat.ble (16777216*e.bytes) 281474976710656 then gd (bf m) (gd (dv (nN m) 16777216) (sa (.row t (rep (nN m) t.dO)) h (fun q h'=>K (.tw (.loc q) e.size) h' (.wr [fT q])))) else none
   | none=>none
  | _,_=>none
 | none=>none
theorem Rk (hE:di P E) {T:Nat} {x y:Operand} {same:Bool} (ho:o.op = .makeSlice T x y) (hs:same=true→x=y) (hr:mkK E T same (ρ x) h K=some r):Out P o ρ h K r:=by
 have hd:∀c,o.op≠.defer c:=by rw [ho];intro c e;cases e
 unfold mkK at hr
 split at hr
 ·rename_i el he
  split at hr
  ·rename_i e k m ht hx
   split at hr
   ·rename_i t Cu
    obtain ⟨h1,hr⟩:=ab hr
    simp only [zC] at h1
    obtain rfl:=hs h1.1.1
    obtain ⟨h2,hr⟩:=cE hr
    obtain ⟨h3,hr⟩:=cE hr
    have h3:nN m≤16777216:=h3
    obtain ⟨h',k1,hq,hf,hh⟩:=jS hr
    have hk:=hE.fm _ _ ht
    have hb:=Nat.le_of_ble_eq_true h1.2
    refine ⟨_,_,_,k1,.of _ hh rfl (fun u hu=>by rcases zF.1 hu with rfl;exact aM (o:=h.bF) hq (.head _)) (fun S2 hA=>?_) hd⟩
    have e1:jJ.low (.row t (rep (nN m) t.dO)) = .cells (tj (nN m) (aJ t t.dO)):=congrArg Ob.cells (AU t _ _)
    rw [e1]
    have su:ρ x = .v (.int k ((nN m:Nat):Int)):=by rw [hx,qE h2]
    exact w9 ho (ss hE he) hk.ti (bU h1.1.2) su su (Nat.le_trans (zW _ h3) hb) (by omega) ((hA _ (aM hq (.head _))).2.2 hf) (hk.tz t Cu)
   ·cases hr
  ·cases hr
 ·cases hr
def So (h:H) (X:Ref) (k:H→Option β):Option β:=bif Bv h (kX X) then none else match X with
 | .loc o=>g_ h.t o none (fun t1=>k { h with t:=t1 })
 | .cT r j=>match cj h.rg r with
  | some ⟨_,.row t',c⟩=>bif Nat.blt r 64 then gd (bl j (len (α:=Option (List t'.T)) c)) (k { h with rg:=lJ h.rg r (.row t') (aT (α:=Option (List t'.T)) c j none) }) else none
  | _=>none
theorem vj {t:Ty} {c:List (Option (List t.T))} {j:Nat} (hj:j<c.length) (i:Nat):fp (.row t) (aT c j none) i=if i=j then none else fp (.row t) c i:=by
 show (match nz (aT c j none) i with | some (some l)=>some (Ob.cells (l.flatMap (aJ t))) | _=>none)=if i=j then none else (match nz c i with | some (some l)=>some (Ob.cells (l.flatMap (aJ t))) | _=>none)
 rw [sC]
 by_cases h:i=j
 ·subst h;rw [if_pos ⟨rfl,hj⟩,if_pos rfl]
 ·rw [if_neg (fun k=>h k.1),if_neg h]
theorem Fq {X:Ref} {k:H→Option β} (hr:So h X k=some r):∃h',k h'=some r∧Gt X=true∧hp h'=app [.del X.id] (hp h)∧h'.bF=h.bF:=by
 obtain ⟨_,hr⟩:=lE hr
 cases X with
 | loc o=>
  obtain ⟨hq,t1,k1,k2⟩:=cp hr
  exact ⟨_,k1,by show Nat.blt o 16777216=true;simpa using (GD hq),vS (GD hq) k2,rfl⟩
 | cT r j=>
  simp only at hr
  split at hr
  ·rename_i _ t' c hf
   obtain ⟨h3,hr⟩:=ab hr
   obtain ⟨h4,hr⟩:=cE hr
   have dP:j<List.length (α:=Option (List t'.T)) c:=h4
   refine ⟨_,hr,h3,?_,rfl⟩
   exact vR (j:=j) (u:=.del (gV r j)) (bU h3) hf (uM (α:=Option (List t'.T)) c j _) (fun i hi=>by rw [vj (c:=c) dP,if_neg hi]) rfl (by rw [vj (c:=c) dP,if_pos rfl];exact if_pos rfl) rfl
  ·cases hr
def y6:A→Bool
 | .e0=>true
 | .v (.slice _ 0 0)=>true
 | _=>false
theorem V.Gx {g:G} {p:A} {v:Value} (hv:V g p v) (h:y6 p=true):∃ad,v = .slice ad 0 0:=by
 unfold y6 at h
 split at h
 ·cases hv with | e0 ad=>exact ⟨ad,rfl⟩
 ·cases hv;exact ⟨_,rfl⟩
 ·cases h
theorem xb {S:Hp} {T E':TypeId} {z b m n:Nat} {X:Ref} {zv:Value} {cs ps:List A} {x y:Operand} (ho:o.op = .call { callee:=.builtin .append,args:=#[x,y],argTypes:=#[T,T] }) (hT:P.underlying T=some (.slice E')) (hE:TI P E' z b zv) (h0:0<z)
  (hp:S.ob X.id=some (.cells cs)) (hx:ρ x = .ts X z 0 n) (sB:(n+m)*z≤cs.length) (hy:∀g w v,Inv g S w→V g (ρ y) v→Given g w v z m ps):gJ P o ρ S (S.set X.id (.cells (put cs (n*z) ps))) (.ts X z 0 (n+m)):=
 .app ho fun g w a hI e1 e2=>by
  obtain ⟨i,t1,t2,t3,t4,t5,t6⟩:=hE
  subst t3 t4
  have M_:gC P E' i.size:=⟨i,t1,rfl⟩
  obtain ⟨A2,oQ,us,xV,tG,qb,J0⟩:=hy g w _ hI e2
  rw [hx] at e1
  generalize hu:a.eval x=vx at e1 ⊢
  cases e1 with
  | xv _ _ _ _ ad hg hn=>
   rcases hI.cells X.id cs hp with ⟨_,k2⟩ | ⟨b',t,k1,_⟩
   ·subst k2
    have hn:n=0:=by omega
    subst hn
    have hm:m=0:=by
     rcases Nat.eq_zero_or_pos m with h | h
     ·exact h
     ·have:0<(0+m)*i.size:=Nat.mul_pos (by omega) h0
      simp only [List.length_nil] at sB;omega
    subst hm
    have xf:ps=[]:=zZ (by rw [tG.1,qb];simp)
    subst xf
    have hS:S.set X.id (.cells (put [] (0*i.size) []))=S:=by
     refine Hp.ext' (fun j=>?_) (fun j=>Iff.rfl)
     show (if j=X.id then some (.cells (put [] (0*i.size) [])) else S.ob j)=S.ob j
     by_cases hj:j=X.id
     ·subst hj;rw [if_pos rfl,hp];simp [put]
     ·rw [if_neg hj]
    rw [hS,xV]
    exact ⟨_,g,w,jL w T E' o.type hT M_ _ A2 0 0 oQ (Nat.le_refl _),.xv X i.size 0 (0+0) ad hg (by simp),hI,.refl S g w⟩
   ·rw [k1] at hg;cases hg
  | ts _ _ _ _ bk cap s hg hnc TN hs RF d hd hq=>
   rw [xV]
   rw [Nat.zero_add] at RF hq
   have xf:ps.length=m*i.size:=by rw [tG.1,qb]
   have hlen:(put cs (n*i.size) ps).length=cs.length:=yI (by rw [xf,←Nat.add_mul];exact sB)
   rcases hI.cells X.id cs hp with ⟨k1,_⟩ | ⟨b',t,k1,cur,ty,k2,sW,k3⟩
   ·rw [k1] at hg;cases hg
   have Lt:=hg
   rw [k1] at hg;simp at hg
   obtain ⟨rfl,rfl⟩:=hg
   simp only at hq RF hs
   have uc:n+m≤cap:=Nat.le_of_mul_le_mul_right (Nat.le_trans sB hq) h0
   have pg:(0+(n+m))*i.size≤(cs.length,t).1:=by rw [Nat.zero_add];exact sB
   have uB:∀g',g'.cn X.id=some (some b',(cs.length,t))→V g' (.ts X i.size 0 (n+m)) (.slice (some ⟨b',d,none⟩) (n+m) cap):=fun g' cR=>.ts X i.size 0 (n+m) b' cap _ cR uc TN pg (by rw [Nat.zero_add];exact RF) d hd (by rw [Nat.zero_add];exact hq)
   rcases Nat.eq_zero_or_pos m with rfl | hm
   ·have xf:ps=[]:=zZ (by rw [xf];simp)
    subst xf
    have xe:put cs (n*i.size) []=cs:=by simp [put]
    have hS:S.set X.id (.cells (put cs (n*i.size) []))=S:=by
     rw [xe]
     refine Hp.ext' (fun j=>?_) (fun j=>Iff.rfl)
     show (if j=X.id then some (.cells cs) else S.ob j)=S.ob j
     by_cases hj:j=X.id
     ·subst hj;rw [if_pos rfl,hp]
     ·rw [if_neg hj]
    rw [hS]
    exact ⟨_,g,w,jL w T E' o.type hT M_ _ A2 n cap oQ hnc,uB g Lt,hI,.refl S g w⟩
   ·obtain ⟨LA,rfl,ph⟩:=J0 hm
    obtain rfl:=hd (by omega)
    have JO:(n+m)*i.size≤cs.length:=sB
    rw [Nat.add_mul] at JO
    obtain ⟨an8,ty',c1,c2,c3,c4⟩:=hI.store (off:=n*i.size) hp Lt tG (by rw [xf];exact JO)
    rw [k2] at c1
    simp only [zI,Obj.cells.injEq,and_true] at c1
    obtain ⟨rfl,rfl⟩:=c1
    have iO:=np (P:=P) w T o.type E' ty i hT t1 b' n cap cur k2 LA m oQ us qb ph tG.one uc c2
    rw [Nat.zero_mul]
    exact ⟨_,g,_,iO,by have:=uB g Lt;rwa [Nat.zero_mul] at this,c3,c4⟩
def SK (E:Env) (T:Nat) (px py:A) (h:H) (K:A→H→Fp→Option β):Option β:=match Dk E T with
 | some el=>match dx E.fm el with
  | some e=>match e.t with
   | some t=>bif Nat.blt 0 e.size && Nat.ble (16777216*e.bytes) 140737488355328 then FM h t py (fun l T1=>
    bif y6 px then gd (dv (len l) 16777216) (sa (.row t l) h (fun q h'=>K (.tw (.loc q) e.size) h' (.pt (fT q) T1)))
    else match px with
    | .tw X z=>kY h X (fun t' l0=>match iz (.cB t') (.cB t) l0 with
     | some l0=>bif Nat.beq z e.size then gd (dv (aU (len (α:=t.T) l0) (len l)) 16777216) (So h X (fun h1=>sa (.row t (cat (α:=t.T) l0 l)) h1 (fun q h2=>K (.tw (.loc q) e.size) h2 (.p2 (fT q) (kX X) T1)))) else none
     | none=>none)
    | .ts X z 0 n=>kY h X (fun t' l0=>match iz (.cB t') (.cB t) l0 with
     | some l0=>bif Nat.beq z e.size then (match py with
      | .ts _ _ _ _=>gd (dv (aU n (len l)) (len (α:=t.T) l0)) (vq h X t (cat (tk (α:=t.T) n l0) (cat l (dr (α:=t.T) (aU n (len l)) l0))) (fun h1=>K (.ts X z 0 (aU n (len l))) h1 (.wr (kX X::T1))))
      | _=>gd (dv (aU n (len l)) 16777216) (So h X (fun h1=>sa (.row t (cat (tk (α:=t.T) n l0) l)) h1 (fun q h2=>K (.tw (.loc q) e.size) h2 (.p2 (fT q) (kX X) T1))))) else none
     | none=>none)
    | .tf X z off n=>br (aj (zN n) 0) (gd (dv (len l) 16777216) (sa (.row t l) h (fun q h'=>K (.tw (.loc q) e.size) h' (.pt (fT q) T1)))) (kY h X (fun t' l0=>match iz (.cB t') (.cB t) l0 with
     | some l0=>bif Nat.beq z e.size then gd (bl 0 (len l)) (gd (dv (aU n (len l)) 16777216) (sa (.row t (cat (tk n (dr (α:=t.T) off l0)) l)) h (fun q h2=>K (.tw (.loc q) e.size) h2 (.p2 (fT q) (kX X) T1)))) else none
     | none=>none))
    | _=>none) else none
   | none=>none
  | none=>none
 | none=>none
theorem lC (t:Ty) (a b:List t.T):(cat a b).flatMap (aJ t)=a.flatMap (aJ t)++b.flatMap (aJ t):=List.flatMap_append
theorem zo (t:Ty) (n:Nat) (l:List t.T):(tk n l).flatMap (aJ t)=(l.flatMap (aJ t)).take (n*t.size):=by
 have:=lf t l 0 n
 simpa [tk] using this.symm
theorem zp (t:Ty) (n:Nat) (l:List t.T):(dr n l).flatMap (aJ t)=(l.flatMap (aJ t)).drop (n*t.size):=by
 have:=lf t l n l.length
 rw [za (by rw [List.length_drop,bT];omega),za (by simp)] at this
 exact this.symm
theorem PW {t:Ty} {X:Ref} {l:List t.T} {h1 h2:H} {T1:List Nat} {pv:A} (hd:∀c,o.op≠.defer c) (hX:Gt X=true) (e1:hp h1=app [.del X.id] (hp h)) (hn:h1.bF=h.bF) (hq:h1.bF<16777216) (hf:(hp h1).fr h1.bF) (e2:hp h2=app [.new h1.bF (jJ.row t l).low] (hp h1))
  (k:∀S2,bK (.p2 (fT h1.bF) (kX X) T1) (hp h) S2→S2.fr h1.bF→gJ P o ρ S2 ((S2.del X.id).new h1.bF (.cells (l.flatMap (aJ t)))) pv):Step P o ρ h h2 (.p2 (fT h1.bF) (kX X) T1) pv:=
 .of2 [.del X.id,.new h1.bF (.cells (l.flatMap (aJ t)))] (by rw [e2,e1];rfl) (fun u hu=>by
  rcases List.mem_cons.1 hu with rfl | hu
  ·exact cF hX (.tail _ (.head _))
  ·rcases zF.1 hu with rfl;exact aM (o:=h1.bF) hq (.head _)) (fun u hu=>by
  show aR (.wr [fT h1.bF,kX X]) u.id=true
  rcases List.mem_cons.1 hu with rfl | hu
  ·exact cF hX (.tail _ (.head _))
  ·rcases zF.1 hu with rfl;exact aM (o:=h1.bF) hq (.head _)) (fun S2 hA=>k S2 hA ((hA _ (aM hq (.head _))).2.2 (by rw [e1] at hf;exact hf))) hd
theorem NN (hE:di P E) {T:Nat} {x y:Operand} (ho:o.op = .call { callee:=.builtin .append,args:=#[x,y],argTypes:=#[T,T] }) (hr:SK E T (ρ x) (ρ y) h K=some r):Out P o ρ h K r:=by
 have hd:∀c,o.op≠.defer c:=by rw [ho];intro c e;cases e
 unfold SK at hr
 split at hr
 ·rename_i el he
  have hT:=ss hE he
  split at hr
  ·rename_i e ht
   have hk:=hE.fm _ _ ht
   split at hr
   ·rename_i t Cu
    have pg:=hk.ts t Cu
    obtain ⟨hb,hr⟩:=ab hr
    simp only [zC] at hb
    have h0:=bU hb.1
    have hb:=Nat.le_of_ble_eq_true hb.2
    have Lw:∀{n:Nat},n≤16777216→n*e.bytes≤140737488355328∧n≤maxLen:=fun hn=>⟨Nat.le_trans (zW _ hn) hb,by unfold maxLen;omega⟩
    obtain ⟨l,T1,hr,zc⟩:=Ei hr
    rw [pg] at zc
    cases Dt:y6 (ρ x) with
    | true=>
     rw [Dt] at hr;simp only [cond_true] at hr
     obtain ⟨h2,hr⟩:=cE hr
     have h2:l.length≤16777216:=h2
     obtain ⟨h',k1,hq,hf,hh⟩:=jS hr
     exact ⟨_,_,_,k1,.of2 _ hh (fun u hu=>by rcases zF.1 hu with rfl;exact aM (o:=h.bF) hq (.head _)) (fun u hu=>by rcases zF.1 hu with rfl;exact aM (l:=[fT h.bF]) (w:=false) (s:=[]) (o:=h.bF) hq (.head _))
      (fun S2 hA=>oZ ho hT hk.ti (fun g v hv=>hv.Gx Dt) (zc S2 (hA.mono fun i hi=>.tail _ hi)) ((hA _ (aM hq (.head _))).2.2 hf) (Lw h2).1 (Lw h2).2) hd⟩
    | false=>
     rw [Dt] at hr;simp only [cond_false] at hr
     split at hr
     ·rename_i X z hx
      obtain ⟨t',l0,hr,hX,fQ⟩:=gq hr
      split at hr
      ·rename_i l0' hl
       obtain ⟨e',rfl⟩:=du hl
       cases e'
       obtain ⟨hz,hr⟩:=ab hr
       have hz:=beq_eq hz
       obtain ⟨h2,hr⟩:=cE hr
       have h2:l0.length+l.length≤16777216:=h2
       obtain ⟨h1,hr,_,e1,hn⟩:=Fq hr
       obtain ⟨h',k1,hq,hf,hh⟩:=jS hr
       refine ⟨_,_,_,k1,PW hd hX e1 hn hq hf hh (fun S2 hA mF=>?_)⟩
       have fN:=(hA _ (cF hX (.tail _ (.head _)))).1.trans fQ
       have:=vB (P:=P) (n:=l0.length) (m:=l.length) (z:=e.size) ho hT hk.ti h0 fN (fun g w v hI hv=>by
        rw [hx,hz,←pg] at hv
        rcases hv.tX hI (by rw [pg];exact h0) fN with ⟨ad,_,rfl,rfl⟩ | ⟨b,s,cap,d,cR,rfl,k2,k3,k4,k5⟩
        ·exact .inl ⟨ad,rfl,rfl⟩
        ·exact .inr ⟨b,s,cap,d,cR,rfl,k2,k3,k4,by rw [←pg];exact k5⟩) (by rw [bT,pg];exact Nat.le_refl _) (zc S2 (hA.mono fun i hi=>.tail _ (.tail _ hi))) mF (Lw h2).1 (Lw h2).2
       rw [za (by rw [bT,pg];exact Nat.le_refl _),←lC] at this
       exact this
      ·cases hr
     ·rename_i X z n hx
      obtain ⟨t',l0,hr,hX,fQ⟩:=gq hr
      split at hr
      ·rename_i l0' hl
       obtain ⟨e',rfl⟩:=du hl
       cases e'
       obtain ⟨hz,hr⟩:=ab hr
       have hz:=beq_eq hz
       split at hr
       ·obtain ⟨h2,hr⟩:=cE hr
        have h2:n+l.length≤l0.length:=h2
        obtain ⟨h1,k1,k2⟩:=pY hX hr
        refine ⟨_,_,_,k1,⟨fun i hi=>k2.1 i (tc (fun j hj=>by rcases zF.1 hj with rfl;exact .head _) hi),fun i hi=>k2.1 i (tc (T:=kX X::T1) (fun j hj=>by rcases zF.1 hj with rfl;exact .head _) (xt hi)),fun S2 hA=>?_⟩⟩
        refine gJ.Rh (gJ.cn fun g w a hI hv=>?_) hd
        have hv:=hv x (by simp [ho,Op.operands,Call.operands])
        have fN:=(hA _ (cF hX (.head _))).1.trans fQ
        have Lr:¬(hp h).fr X.id:=fun hf=>by
         have Za:=(hA _ (cF hX (.head _))).2.2 hf
         have:=hI.fresh _ Za
         rw [hx] at hv
         generalize a.eval x=vx at hv
         cases hv with
         | xv _ _ _ _ ad cR=>rw [cR] at this;cases this
         | ts _ _ _ _ b cap s cR=>rw [cR] at this;cases this
        have e1:=k2.2 Lr
        have hT1:aR (.wr (kX X::T1)) X.id=true:=cF hX (.head _)
        rw [e1,lR (fun u hu=>by rcases zF.1 hu with rfl;exact hT1) hA]
        have:=xb (P:=P) (n:=n) (m:=l.length) (X:=X) ho hT hk.ti h0 fN (by rw [hx,hz]) (by rw [bT,pg];exact zW _ h2) (zc S2 (hA.mono fun i hi=>.tail _ hi))
        have e2:put (l0.flatMap (aJ t)) (n*e.size) (l.flatMap (aJ t))=(cat (tk n l0) (cat l (dr (aU n (len l)) l0))).flatMap (aJ t):=by
         rw [lC,lC,zo,zp,pg]
         unfold put
         rw [bT,pg,←Nat.add_mul];rfl
        rw [e2] at this
        rw [hz]
        exact this
       ·obtain ⟨h2,hr⟩:=cE hr
        have h2:n+l.length≤16777216:=h2
        obtain ⟨h1,hr,_,e1,hn⟩:=Fq hr
        obtain ⟨h',k1,hq,hf,hh⟩:=jS hr
        refine ⟨_,_,_,k1,PW hd hX e1 hn hq hf hh (fun S2 hA mF=>gJ.cn fun g0 w0 a0 Zj y9=>?_)⟩
        have fN:=(hA _ (cF hX (.tail _ (.head _)))).1.trans fQ
        have hle:n≤l0.length:=by
         have hv:=y9 x (by simp [ho,Op.operands,Call.operands])
         rw [hx,hz,←pg] at hv
         have:=xu Zj (by rw [pg];exact h0) fN hv
         omega
        have:=vB (P:=P) (n:=n) (m:=l.length) (z:=e.size) ho hT hk.ti h0 fN (fun g w v hI hv=>by
         rw [hx,hz] at hv
         cases hv with
         | xv _ _ _ _ ad _ hn=>exact .inl ⟨ad,rfl,by omega⟩
         | ts _ _ _ _ b cap s cR k2 k3 k4 k5 d k6=>
          rw [Nat.zero_add] at k5
          exact .inr ⟨b,s,cap,d,cR,rfl,fun hc=>by rw [k6 hc,Nat.zero_mul],k2,k3,k5⟩) (by rw [bT,pg];exact zW _ hle) (zc S2 (hA.mono fun i hi=>.tail _ (.tail _ hi))) mF (Lw h2).1 (Lw h2).2
        rw [←pg,←zo,←lC] at this
        rw [←pg]
        exact this
      ·cases hr
     ·rename_i X z off n hx
      rcases tS hr with ⟨RI,hr⟩ | ⟨_,hr⟩
      ·obtain ⟨h2,hr⟩:=cE hr
       have h2:l.length≤16777216:=h2
       have RI:n=0:=by have:=of_decide_eq_true RI;unfold zN at this;omega
       obtain ⟨h',k1,hq,hf,hh⟩:=jS hr
       exact ⟨_,_,_,k1,.of2 _ hh (fun u hu=>by rcases zF.1 hu with rfl;exact aM (o:=h.bF) hq (.head _)) (fun u hu=>by rcases zF.1 hu with rfl;exact aM (l:=[fT h.bF]) (w:=false) (s:=[]) (o:=h.bF) hq (.head _))
        (fun S2 hA=>oZ ho hT hk.ti (fun g v hv=>by rw [hx,RI] at hv;cases hv<;>exact ⟨_,rfl⟩) (zc S2 (hA.mono fun i hi=>.tail _ hi)) ((hA _ (aM hq (.head _))).2.2 hf) (Lw h2).1 (Lw h2).2) hd⟩
      obtain ⟨t',l0,hr,hX,fQ⟩:=gq hr
      split at hr
      ·rename_i l0' hl
       obtain ⟨e',rfl⟩:=du hl
       cases e'
       obtain ⟨hz,hr⟩:=ab hr
       have hz:=beq_eq hz
       obtain ⟨h3,hr⟩:=cE hr
       have h3:0<l.length:=h3
       obtain ⟨h2,hr⟩:=cE hr
       have h2:n+l.length≤16777216:=h2
       obtain ⟨h',k1,hq,hf,hh⟩:=jS hr
       refine ⟨_,_,_,k1,.of2 _ hh (fun u hu=>by rcases zF.1 hu with rfl;exact aM (o:=h.bF) hq (.head _)) (fun u hu=>by rcases zF.1 hu with rfl;exact aM (l:=[fT h.bF,kX X]) (w:=false) (s:=[]) (o:=h.bF) hq (.head _)) (fun S2 hA=>gJ.cn fun g0 w0 a0 Zj y9=>?_) hd⟩
       have fN:=(hA _ (cF hX (.tail _ (.head _)))).1.trans fQ
       have hle:off+n≤l0.length:=by
        have hv:=y9 x (by simp [ho,Op.operands,Call.operands])
        rw [hx,hz,←pg] at hv
        generalize a0.eval x=vx at hv
        cases hv with
        | HU _ _ _ _ _ _ hn=>omega
        | tf _ _ _ _ b s cR _ hs=>
         rcases Zj.cells _ _ fN with ⟨k1,_⟩ | ⟨b',LL,k1,_⟩
         ·rw [k1] at cR;cases cR
         rw [k1] at cR
         simp only [zI,zU] at cR
         obtain ⟨_,rfl⟩:=cR
         simp only [bT] at hs
         exact Nat.le_of_mul_le_mul_right hs (by rw [pg];exact h0)
       have:=uz (P:=P) (off:=off*e.size) (n:=n) (m:=l.length) (z:=e.size) ho hT hk.ti h0 (fun g w v hI hv=>by
        rw [hx,hz] at hv
        cases hv with
        | HU _ _ _ _ ad _ hn=>exact .inl ⟨ad,rfl,by omega⟩
        | tf _ _ _ _ b s cR _ _ d k6=>exact .inr ⟨b,s,d,cR,rfl,k6⟩) fN (by rw [bT,pg,←Nat.add_mul];exact zW _ hle) (zc S2 (hA.mono fun i hi=>.tail _ (.tail _ hi))) h3 ((hA _ (aM hq (.head _))).2.2 hf) (Lw h2).1 (Lw h2).2
       rw [←pg,lf,←lC] at this
       rw [←pg]
       exact this
      ·cases hr
     ·cases hr
   ·cases hr
  ·cases hr
 ·cases hr
end
end
section
open Go.RowKit
theorem qd {α β:Type} {f:α→List β} {s:Nat} (hf:∀x,(f x).length=s) (l:List α):(l.flatMap f).length=l.length*s:=by
 induction l with
 | nil=>simp
 | cons a l ih=>rw [List.flatMap_cons,zY,ih,hf,zR,Nat.succ_mul,Nat.add_comm]
theorem DK {α β:Type} {f:α→List β} {s:Nat} (hf:∀x,(f x).length=s) (l:List α) (off n:Nat):((l.flatMap f).drop (off*s)).take (n*s)=((l.drop off).take n).flatMap f:=by
 have h1:l.flatMap f=(l.take off).flatMap f++(l.drop off).flatMap f:=by rw [←List.flatMap_append,zP]
 by_cases hl:off≤l.length
 ·have h2:((l.take off).flatMap f).length=off*s:=by rw [qd hf,List.length_take,Nat.min_eq_left hl]
  rw [h1,List.drop_append,List.drop_eq_nil_of_le (by omega),List.nil_append,h2,Nat.sub_self,List.drop_zero]
  generalize l.drop off=k
  have h3:k.flatMap f=(k.take n).flatMap f++(k.drop n).flatMap f:=by rw [←List.flatMap_append,zP]
  by_cases hk:n≤k.length
  ·have h4:((k.take n).flatMap f).length=n*s:=by rw [qd hf,List.length_take,Nat.min_eq_left hk]
   rw [h3,List.take_append_of_le_length (by omega),za (by omega)]
  ·rw [za (by rw [qd hf];exact zW _ (by omega)),za (l:=k) (by omega)]
 ·rw [List.drop_eq_nil_of_le (as:=l) (by omega),List.drop_eq_nil_of_le (by rw [qd hf];exact zW _ (by omega))]
  simp
def uG (ad:Option Addr) (z lo hi c:Nat):Value:=.slice (if c=lo then ad else ad.map (·.add (lo*z))) (hi-lo) (c-lo)
theorem V.CK {g:G} {t:Ty} {f f':Bool} {l:List t.T} {lo hi:Nat} {v:Value} (hv:V g (.tl t f l) v) (h1:lo≤hi) (h2:hi≤l.length) :
  ∃ad cap,v = .slice ad l.length cap∧l.length≤cap∧(f=true→cap=l.length)∧∀c,hi≤c→c≤cap→(f'=true→c=hi)→V g (.tl t f' (tk (hi-lo) (dr lo l))) (uG ad t.size lo hi c):=by
 cases hv with
 | tl _ _ _ _ hd=>
  generalize oJ:List.map (eH t) l=es at hd
  have tJ:es.length=l.length:=by rw [←oJ,zH]
  have xY:es.flatten=l.flatMap (eH t):=by rw [←oJ,nB]
  cases hd with
  | wR=>
   have:l=[]:=zZ tJ.symm
   subst this
   refine ⟨_,0,rfl,Nat.le_refl _,fun _=>rfl,fun c k1 k2 k3=>?_⟩
   have hc:c=0:=by omega
   have hl:lo=0:=by simp at h2;omega
   have hh:hi=0:=by simpa using h2
   subst hc hl hh
   exact .tl t f' _ _ (by rw [show tk (0-0) (dr 0 ([]:List t.T))=[] by simp [tk]];exact .wR _ _ _)
  | sl _ _ _ a cap vs hz hc hf hn hx hl hm Ll=>
   rw [tJ] at hc hf
   rw [tJ]
   refine ⟨_,cap,rfl,hc,hf,fun c k1 k2 k3=>?_⟩
   unfold uG
   by_cases sB:c=lo
   ·have e1:hi-lo=0:=by omega
    rw [if_pos sB,e1,show c-lo=0 by omega]
    exact .tl t f' _ _ (by rw [show tk 0 (dr lo l)=[] by simp [tk]];exact .wR _ _ _)
   ·rw [if_neg sB]
    cases a with
    | none=>have:=hn rfl;omega
    | some p=>
     have hlen:(tk (hi-lo) (dr lo l)).length=hi-lo:=by simp [tk,dr];omega
     have JJ:=DK (f:=eH t) (fun x=>fO t x) l lo (hi-lo)
     rw [xY] at hl Ll
     have e2:((tk (hi-lo) (dr lo l)).map (eH t)).flatten=((l.flatMap (eH t)).drop (lo*t.size)).take ((hi-lo)*t.size):=by rw [nB,JJ];rfl
     have:=VD.sl (M:=g.mem) t.size f' ((tk (hi-lo) (dr lo l)).map (eH t)) (some (p.1,p.2+lo*t.size)) (c-lo) ((vs.drop (lo*t.size)).take ((hi-lo)*t.size))
      (fun e he=>by obtain ⟨x,_,rfl⟩:=List.mem_map.1 he;exact fO t x) (by rw [zH,hlen];omega) (fun h=>by rw [zH,hlen,k3 h]) (fun h=>by cases h) (by omega)
      (by rw [e2];simp only [List.length_take,List.length_drop,hl])
      (fun q j x hq hj=>by
       cases hq
       rw [List.getElem?_take] at hj
       split at hj
       ·rw [List.getElem?_drop] at hj
        have:=hm p _ x rfl hj
        rw [←Nat.add_assoc] at this;exact this
       ·cases hj)
      (fun j d x hj Y5=>by
       rw [e2] at hj
       rw [List.getElem?_take] at hj Y5
       split at hj
       ·rename_i dP
        rw [if_pos dP] at Y5
        rw [List.getElem?_drop] at hj Y5
        exact Ll _ d x hj Y5
       ·cases hj)
     rw [zH,hlen] at this
     have e3:Option.map (fun x:Addr=>x.add (lo*t.size)) (Option.map adr (some p))=Option.map adr (some (p.1,p.2+lo*t.size)):=congrArg some (Addr.add_lit _ _ _)
     rw [e3]
     exact .tl t f' _ _ this
section
variable {P:Program} {E:Env} {o:Oper} {ρ:Operand→A} {h:H} {β:Type} {K:A→H→Fp→Option β} {r:β}
def Hh (ox:Option A) (d:Nat) (k:Nat→Option β):Option β:=match ox with
 | none=>k d
 | some (.v (.int _ m))=>gd (bf m) (k (nN m))
 | _=>none
theorem mu {x:Option Operand} {d:Nat} {k:Nat→Option β} (hr:Hh (x.map ρ) d k=some r):∃n,k n=some r∧Bd ρ d x n:=by
 unfold Hh at hr
 split at hr
 ·rename_i hx
  cases x with
  | none=>exact ⟨d,hr,rfl⟩
  | some y=>cases hx
 ·rename_i kd m hx
  cases x with
  | none=>cases hx
  | some y=>
   obtain ⟨h1,h2⟩:=cE hr
   refine ⟨_,h2,kd,?_⟩
   rw [qE h1]
   exact Option.some.inj hx
 ·cases hr
theorem V.OY {g:G} {S:Hp} {w:World} (hI:Inv g S w) {X:Ref} {t:Ty} {l:List t.T} (h0:0<t.size) (ho:S.ob X.id=some (.cells (l.flatMap (aJ t)))) {v:Value} (hv:V g (.tw X t.size) v) {lo hi:Nat} (h1:lo≤hi) (h2:hi≤l.length) :
  ∃ad cap,v = .slice ad l.length cap∧l.length≤cap∧V g (.ts X t.size lo (hi-lo)) (uG ad t.size lo hi cap)∧V g (.tf X t.size lo (hi-lo)) (uG ad t.size lo hi hi):=by
 have hlen:=bT t l
 rcases hv.tX hI h0 ho with ⟨ad,cR,rfl,rfl⟩ | ⟨b,s,cap,d,cR,rfl,k2,k3,k4,k5⟩
 ·have hh:hi=0:=by simpa using h2
  have hl:lo=0:=by omega
  subst hh hl
  exact ⟨ad,0,rfl,Nat.le_refl _,.xv X t.size 0 _ ad cR rfl,.HU X t.size 0 _ ad cR rfl⟩
 ·have hs:s.1=l.length*t.size:=by
   rcases hI.cells _ _ ho with ⟨k1,_⟩ | ⟨b',LL,k1,_⟩
   ·rw [k1] at cR;cases cR
   rw [k1] at cR
   simp only [zI,zU] at cR
   obtain ⟨_,rfl⟩:=cR
   exact hlen
  have m0:(lo+(hi-lo))*t.size≤s.1:=by rw [hs];exact zW _ (by omega)
  refine ⟨_,cap,rfl,k3,?_,?_⟩
  ·unfold uG
   by_cases hc:cap=lo
   ·rw [if_pos hc]
    refine .ts X t.size lo (hi-lo) b (cap-lo) s cR (by omega) (by omega) m0 ?_ d (fun h=>by omega) ?_
    ·rw [show lo+(cap-lo)=cap by omega];exact k5
    ·rw [show lo+(cap-lo)=cap by omega,hs];exact zW _ k3
   ·rw [if_neg hc,Option.map_some,Addr.add_lit]
    have hd:=k2 (by omega)
    refine .ts X t.size lo (hi-lo) b (cap-lo) s cR (by omega) (by omega) m0 ?_ _ (fun _=>by omega) ?_
    ·rw [show lo+(cap-lo)=cap by omega];exact k5
    ·rw [show lo+(cap-lo)=cap by omega,hs];exact zW _ k3
  ·unfold uG
   by_cases hc:hi=lo
   ·rw [if_pos hc]
    exact .tf X t.size lo (hi-lo) b s cR (by omega) m0 d (fun h=>by omega)
   ·rw [if_neg hc,Option.map_some,Addr.add_lit]
    have hd:=k2 (by omega)
    exact .tf X t.size lo (hi-lo) b s cR (by omega) m0 _ (fun _=>by omega)
theorem V.Wl {g:G} {S:Hp} {w:World} (hI:Inv g S w) {X:Ref} {t:Ty} {l:List t.T} (h0:0<t.size) (ho:S.ob X.id=some (.cells (l.flatMap (aJ t)))) {off n:Nat} {v:Value} (hv:V g (.ts X t.size off n) v) {lo hi:Nat} (h1:lo≤hi) (h2:off+hi≤l.length) :
  ∃ad cap,v = .slice ad n cap∧hi≤cap∧V g (.ts X t.size (off+lo) (hi-lo)) (uG ad t.size lo hi cap)∧V g (.tf X t.size (off+lo) (hi-lo)) (uG ad t.size lo hi hi):=by
 have hlen:=bT t l
 cases hv with
 | xv _ _ _ _ ad cR hn=>
  rcases hI.cells _ _ ho with ⟨_,k2⟩ | ⟨b',LL,k1,_⟩
  ·rw [k2] at hlen
   have hl:l.length=0:=by
    rcases Nat.eq_zero_or_pos l.length with h | h
    ·exact h
    ·have:0<l.length*t.size:=Nat.mul_pos h h0
     simp at hlen;omega
   have hh:hi=0:=by omega
   have hl:lo=0:=by omega
   have hof:off=0:=by omega
   have JN:n=0:=by omega
   subst hh hl hof JN
   exact ⟨ad,0,rfl,Nat.le_refl _,.xv X t.size _ _ ad cR rfl,.HU X t.size _ _ ad cR rfl⟩
  ·rw [k1] at cR;cases cR
 | ts _ _ _ _ b cap s cR hn hx hs hp d hd hq=>
  have MU:s.1=l.length*t.size:=by
   rcases hI.cells _ _ ho with ⟨k1,_⟩ | ⟨b',LL,k1,_⟩
   ·rw [k1] at cR;cases cR
   rw [k1] at cR
   simp only [zI,zU] at cR
   obtain ⟨_,rfl⟩:=cR
   exact hlen
  have aeR:l.length≤off+cap:=by rw [MU] at hq;exact Nat.le_of_mul_le_mul_right hq h0
  have m0:(off+lo+(hi-lo))*t.size≤s.1:=by rw [MU];exact zW _ (by omega)
  refine ⟨_,cap,rfl,by omega,?_,?_⟩
  ·unfold uG
   by_cases hc:cap=lo
   ·rw [if_pos hc]
    refine .ts X t.size (off+lo) (hi-lo) b (cap-lo) s cR (by omega) (by omega) m0 ?_ d (fun h=>by omega) ?_
    ·rw [show off+lo+(cap-lo)=off+cap by omega];exact hp
    ·rw [show off+lo+(cap-lo)=off+cap by omega];exact hq
   ·rw [if_neg hc,Option.map_some,Addr.add_lit]
    have hd:=hd (by omega)
    refine .ts X t.size (off+lo) (hi-lo) b (cap-lo) s cR (by omega) (by omega) m0 ?_ _ (fun _=>by rw [hd,Nat.add_mul]) ?_
    ·rw [show off+lo+(cap-lo)=off+cap by omega];exact hp
    ·rw [show off+lo+(cap-lo)=off+cap by omega];exact hq
  ·unfold uG
   by_cases hc:hi=lo
   ·rw [if_pos hc]
    exact .tf X t.size (off+lo) (hi-lo) b s cR (by omega) m0 d (fun h=>by omega)
   ·rw [if_neg hc,Option.map_some,Addr.add_lit]
    have hd:=hd (by omega)
    exact .tf X t.size (off+lo) (hi-lo) b s cR (by omega) m0 _ (fun _=>by rw [hd,Nat.add_mul])
def HZ (E:Env) (T:Nat) (px:A) (lo hi mx:Option A) (same:Bool) (h:H) (K:A→H→Fp→Option β):Option β:=match dx E.fm T with
 | some ⟨.slice el,_,_,_,_,_,_⟩=>match dx E.fm el with
  | some e=>match px with
   | .e0=>Hh lo 0 (fun l=>Hh hi 0 (fun n=>gd (dv l n) (gd (dv n 0) (match mx with
    | none=>K .e0 h (.rd [])
    | some _=>bif same && hi.isSome then K .e0 h (.rd []) else none))))
   | .tl t f x=>bif Nat.beq e.size t.size then Hh lo 0 (fun l=>Hh hi (len x) (fun n=>gd (dv l n) (gd (dv n (len x)) (match mx with
    | none=>K (.tl t (f && hi.isNone) (tk (aG n l) (dr l x))) h .no
    | some _=>bif same && hi.isSome then K (.tl t true (tk (aG n l) (dr l x))) h .no else none)))) else none
   | .tw X z=>kY h X (fun t x=>bif Nat.beq z e.size && Nat.beq z t.size && Nat.blt 0 z then Hh lo 0 (fun l=>Hh hi (len x) (fun n=>gd (dv l n) (gd (dv n (len x)) (match mx with
    | none=>K (.ts X z l (aG n l)) h (.rd [kX X])
    | some _=>bif same && hi.isSome then K (.tf X z l (aG n l)) h (.rd [kX X]) else none)))) else none)
   | .ts X z off m=>kY h X (fun t x=>bif Nat.beq z e.size && Nat.beq z t.size && Nat.blt 0 z then Hh lo 0 (fun l=>Hh hi m (fun n=>gd (dv l n) (gd (dv (aU off n) (len x)) (match mx with
    | none=>K (.ts X z (aU off l) (aG n l)) h (.rd [kX X])
    | some _=>bif same && hi.isSome then K (.tf X z (aU off l) (aG n l)) h (.rd [kX X]) else none)))) else none)
   | _=>none
  | none=>none
 | some ⟨.array n el,_,_,_,_,_,_⟩=>match dx E.fm el with
  | some e=>bif lo.isNone && hi.isNone && mx.isNone && Nat.ble n 16777216 then (match px with
   | .tp X π=>K (.aa X π n e.size) h .no
   | .ptr q off=>match h.t.get q with
    | some (.cells cs)=>bif Nat.blt q 16777216 && Nat.ble (off+n*e.size) cs.length then K (.sl q off e.size n) h (.rd [fT q]) else none
    | _=>none
   | _=>none) else none
  | none=>none
 | _=>none
theorem isNone_map {x:Option Operand} (h:(x.map ρ).isNone=true):x=none:=by cases x with | none=>rfl | some y=>cases h
theorem isSome_map {x:Option Operand} (h:(x.map ρ).isSome=true):∃y,x=some y:=by cases x with | none=>cases h | some y=>exact ⟨y,rfl⟩
theorem uR {S:Hp} {T E':TypeId} {x:Operand} {lo hi mx:Option Operand} {z l n d:Nat} {pv pw:A} (ho:o.op = .slice T x lo hi mx) (hT:P.underlying T=some (.slice E')) (hE:gC P E' z) (ze:Bd ρ 0 lo l) (zg:Bd ρ d hi n) (h1:l≤n)
  (hr:∀g w v,Inv g S w→V g (ρ x) v→∃ad cap,v = .slice ad d cap∧n≤cap∧(mx=none→V g pv (uG ad z l n cap))∧(mx=hi→V g pw (uG ad z l n n))):(mx=none→gJ P o ρ S S pv)∧(mx=hi→hi≠none→gJ P o ρ S S pw):=
 ⟨fun hm=>by
  subst hm
  exact Gi ho hT hE ze h1 (fun g w v hI hv=>let ⟨ad,cap,k1,k2,k3,_⟩:=hr g w v hI hv;⟨ad,d,cap,k1,zg,k2,k3 rfl⟩),
 fun hm hn=>by
  subst hm
  cases Qe:mx with
  | none=>exact absurd Qe hn
  | some y=>
   subst Qe
   exact vv (hi:=y) (mx:=y) ho hT hE ze zg zg h1 (Nat.le_refl _) (fun g w v hI hv=>let ⟨ad,cap,k1,k2,_,k4⟩:=hr g w v hI hv;⟨ad,d,cap,k1,k2,k4 rfl⟩)⟩
theorem yp (hE:di P E) {T:Nat} {x:Operand} {lo hi mx:Option Operand} {same:Bool} (ho:o.op = .slice T x lo hi mx) (hs:same=true→mx=hi) (hr:HZ E T (ρ x) (lo.map ρ) (hi.map ρ) (mx.map ρ) same h K=some r):Out P o ρ h K r:=by
 have hd:∀c,o.op≠.defer c:=by rw [ho];intro c e;cases e
 unfold HZ at hr
 split at hr
 ·rename_i el _ _ _ _ _ _ ht
  have hT:=(hE.fm _ _ ht).u
  split at hr
  ·rename_i e he
   have hz:=(hE.fm _ _ he).ti.size
   have fin:∀{T':List Nat} {pv pw:A} {Sx:Hp→Prop},(∀S2,bK (.rd T') (hp h) S2→(mx=none→gJ P o ρ S2 S2 pv)∧(mx=hi→hi≠none→gJ P o ρ S2 S2 pw))→(match mx.map ρ with | none=>K pv h (.rd T') | some _=>bif same && (hi.map ρ).isSome then K pw h (.rd T') else none)=some r→Out P o ρ h K r:=fun {T' pv pw Sx} k hr=>by
    cases hm:mx with
    | none=>
     rw [hm] at hr
     exact .read _ hr (fun S2 hA=>(k S2 hA).1 hm) hd
    | some y=>
     rw [hm] at hr
     obtain ⟨h1,hr⟩:=ab hr
     simp only [zC] at h1
     obtain ⟨y',qW⟩:=isSome_map h1.2
     exact .read _ hr (fun S2 hA=>(k S2 hA).2 (hs h1.1) (by rw [qW];intro h;cases h)) hd
   split at hr
   ·rename_i hx
    obtain ⟨l,hr,ze⟩:=mu hr
    obtain ⟨n,hr,zg⟩:=mu hr
    obtain ⟨h1,hr⟩:=cE hr
    obtain ⟨h2,hr⟩:=cE hr
    have h1:l≤n:=h1
    have h2:n≤0:=h2
    have hn:n=0:=by omega
    have hl:l=0:=by omega
    subst hn hl
    exact fin (T':=[]) (Sx:=fun _=>True) (fun S2 _=>uR (pw:=.e0) ho hT hz ze zg h1 (fun g w v hI hv=>by
     rw [hx] at hv
     cases hv with
     | e0 ad=>exact ⟨ad,0,rfl,Nat.le_refl _,fun _=>.e0 _,fun _=>.e0 _⟩)) hr
   ·rename_i t f x' hx
    obtain ⟨hq,hr⟩:=ab hr
    have hq:=beq_eq hq
    obtain ⟨l,hr,ze⟩:=mu hr
    obtain ⟨n,hr,zg⟩:=mu hr
    obtain ⟨h1,hr⟩:=cE hr
    obtain ⟨h2,hr⟩:=cE hr
    have h1:l≤n:=h1
    have h2:n≤x'.length:=h2
    refine fin (T':=[]) (Sx:=fun _=>True) (fun S2 _=>uR ho hT hz ze zg h1 (fun g w v hI hv=>?_)) hr
    rw [hx] at hv
    obtain ⟨ad,cap,k1,k2,k3,_⟩:=hv.CK (f':=f && (hi.map ρ).isNone) h1 h2
    refine ⟨ad,cap,k1,by omega,fun hm=>?_,fun _=>?_⟩
    ·obtain ⟨ad',ahB,j1,j2,j3,j4⟩:=hv.CK (f':=f && (hi.map ρ).isNone) h1 h2
     rw [k1] at j1;cases j1
     rw [hq]
     refine j4 cap (by omega) (Nat.le_refl _) (fun hf=>?_)
     simp only [zC] at hf
     have hh:=isNone_map hf.2
     subst hh
     have:n=len x':=zg
     rw [k3 hf.1,this];rfl
    ·obtain ⟨ad',ahB,j1,j2,j3,j4⟩:=hv.CK (f':=true) h1 h2
     rw [k1] at j1;cases j1
     rw [hq]
     exact j4 n (Nat.le_refl _) (by omega) (fun _=>rfl)
   ·rename_i X z hx
    obtain ⟨t,x',hr,hX,fQ⟩:=gq hr
    obtain ⟨hq,hr⟩:=ab hr
    simp only [zC] at hq
    have hq1:=beq_eq hq.1.1
    have JH:=beq_eq hq.1.2
    have h0:=bU hq.2
    obtain ⟨l,hr,ze⟩:=mu hr
    obtain ⟨n,hr,zg⟩:=mu hr
    obtain ⟨h1,hr⟩:=cE hr
    obtain ⟨h2,hr⟩:=cE hr
    have h1:l≤n:=h1
    have h2:n≤x'.length:=h2
    refine fin (T':=[kX X]) (Sx:=fun _=>True) (fun S2 hA=>uR ho hT hz ze zg h1 (fun g w v hI hv=>?_)) hr
    have fN:=(hA _ (cF hX (.head _))).1.trans fQ
    rw [hx,JH] at hv
    obtain ⟨ad,cap,k1,k2,k3,k4⟩:=hv.OY hI (by omega) fN h1 h2
    rw [←JH] at k3 k4
    rw [←hq1]
    exact ⟨ad,cap,k1,by omega,fun _=>k3,fun _=>k4⟩
   ·rename_i X z off m hx
    obtain ⟨t,x',hr,hX,fQ⟩:=gq hr
    obtain ⟨hq,hr⟩:=ab hr
    simp only [zC] at hq
    have hq1:=beq_eq hq.1.1
    have JH:=beq_eq hq.1.2
    have h0:=bU hq.2
    obtain ⟨l,hr,ze⟩:=mu hr
    obtain ⟨n,hr,zg⟩:=mu hr
    obtain ⟨h1,hr⟩:=cE hr
    obtain ⟨h2,hr⟩:=cE hr
    have h1:l≤n:=h1
    have h2:off+n≤x'.length:=h2
    refine fin (T':=[kX X]) (Sx:=fun _=>True) (fun S2 hA=>uR ho hT hz ze zg h1 (fun g w v hI hv=>?_)) hr
    have fN:=(hA _ (cF hX (.head _))).1.trans fQ
    rw [hx,JH] at hv
    obtain ⟨ad,cap,k1,k2,k3,k4⟩:=hv.Wl hI (by omega) fN h1 h2
    rw [←JH] at k3 k4
    rw [←hq1]
    exact ⟨ad,cap,k1,k2,fun _=>k3,fun _=>k4⟩
   ·cases hr
  ·cases hr
 ·rename_i n el _ _ _ _ _ _ ht
  have hT:=(hE.fm _ _ ht).u
  split at hr
  ·rename_i e he
   have hz:=(hE.fm _ _ he).ti.size
   obtain ⟨h1,Al⟩:=ab hr
   clear hr
   simp only [zC] at h1
   have e1:=isNone_map h1.1.1.1
   have e2:=isNone_map h1.1.1.2
   have e3:=isNone_map h1.1.2
   have hn:=Nat.le_of_ble_eq_true h1.2
   clear h1
   subst e1 e2 e3
   split at Al
   ·rename_i X π hx
    exact .pure Al (fun S2=>qC ho hT ⟨_,hz⟩ (fun g w v hI hv=>by
     rw [hx] at hv
     cases hv with
     | tp _ _ b s cR hk=>exact ⟨b,_,rfl,.aa X π n e.size b n s cR hk (Nat.le_refl _) (by unfold maxLen;omega)⟩)) hd
   ·rename_i q off hx
    split at Al
    ·rename_i cs hg
     obtain ⟨h2,Al⟩:=ab Al
     simp only [zC] at h2
     have hq:=bU h2.1
     have h3:=Nat.le_of_ble_eq_true h2.2
     have fQ:(hp h).ob q=some (.cells cs):=by rw [mm hq];unfold ir;rw [hg];rfl
     exact .read _ Al (fun S2 hA=>qC ho hT ⟨_,hz⟩ (fun g w v hI hv=>by
      rw [hx] at hv
      cases hv with
      | ptr _ _ b s cR=>
       have hs:s.1=cs.length:=by
        rcases hI.cells _ _ ((hA q (aM hq (.head _))).1.trans fQ) with ⟨k1,_⟩ | ⟨b',LL,k1,_⟩
        ·rw [k1] at cR;cases cR
        rw [k1] at cR
        simp only [zI,zU] at cR
        obtain ⟨_,rfl⟩:=cR
        rfl
       exact ⟨b,off,rfl,.sl q off e.size n b n s cR (Nat.le_refl _) (by unfold maxLen;omega) (by rw [hs];exact h3)⟩)) hd
    ·cases Al
   ·cases Al
  ·cases hr
 ·cases hr
end
end
section
open Go.RowKit
section
variable {P:Program} {E:Env} {o:Oper} {ρ:Operand→A} {h:H} {β:Type} {K:A→H→Fp→Option β} {r:β}
theorem Step.put {h1:H} {X:Ref} {x:Ob} {T1:List Nat} {pv:A} (hd:∀c,o.op≠.defer c) (hX:Gt X=true) (k2:Cl h h1 X x) (Gf:∀(g:G) (S:Hp) (w:World) (a:Act),Inv g S w→(∀x∈o.op.operands,V g (ρ x) (a.eval x))→g.cn X.id≠none)
  (k:∀S2,bK (.pt (kX X) T1) (hp h) S2→gJ P o ρ S2 (S2.set X.id x) pv):Step P o ρ h h1 (.pt (kX X) T1) pv where
 out:=fun i hi=>k2.1 i (by
  have hi:(false || (kX X::T1).any (Nat.beq (res i)))=false:=hi
  rw [List.any_cons,Bool.or_eq_false_iff,Bool.or_eq_false_iff] at hi
  show (false || [kX X].any (Nat.beq (res i)))=false
  rw [List.any_cons,hi.2.1];rfl)
 rd:=fun i hi=>k2.1 i (by simpa [wt,aR,Fp.pt,Fp.wr] using hi)
 ok:=fun S2 hA=>by
  refine gJ.Rh (gJ.cn fun g w a hI hv=>?_) hd
  have hT1:aR (.pt (kX X) T1) X.id=true:=cF hX (.head _)
  have Lr:¬(hp h).fr X.id:=fun hf=>Gf g S2 w a hI hv (hI.fresh _ ((hA _ hT1).2.2 hf))
  rw [k2.2 Lr,lR (fun u hu=>by rcases zF.1 hu with rfl;exact hT1) hA]
  exact k S2 hA
theorem V.atw {g:G} {X:Ref} {z:Nat} {v:Value} (hv:V g (.tw X z) v):g.cn X.id≠none:=by cases hv<;>simp_all
theorem V.ats {g:G} {X:Ref} {z off n:Nat} {v:Value} (hv:V g (.ts X z off n) v):g.cn X.id≠none:=by cases hv<;>simp_all
def KG (E:Env) (T:Nat) (px py:A) (h:H) (K:A→H→Fp→Option β):Option β:=match Dk E T with
 | some el=>match dx E.fm el with
  | some e=>match e.t,px with
   | some t,.tw X z=>bif Nat.blt 0 e.size then FM h t py (fun l T1=>kY h X (fun t' l0=>match iz (.cB t') (.cB t) l0 with
    | some l0=>bif Nat.beq z e.size then gd (bl 0 (len (α:=t.T) l0)) (gd (dv (len l) (len (α:=t.T) l0)) (vq h X t (cat l (dr (α:=t.T) (len l) l0)) (fun h1=>K (.v (.int .i64 (zN (len l)))) h1 (.pt (kX X) T1)))) else none
    | none=>none)) else none
   | _,_=>none
  | none=>none
 | none=>none
theorem KF (hE:di P E) {T T':Nat} {x y:Operand} (ho:o.op = .call { callee:=.builtin .copy,args:=#[x,y],argTypes:=#[T,T'] }) (hr:KG E T (ρ x) (ρ y) h K=some r):Out P o ρ h K r:=by
 have hd:∀c,o.op≠.defer c:=by rw [ho];intro c e;cases e
 unfold KG at hr
 split at hr
 ·rename_i el he
  split at hr
  ·rename_i e ht
   have hk:=hE.fm _ _ ht
   split at hr
   ·rename_i t X z Cu hx
    have pg:=hk.ts t Cu
    obtain ⟨h0,hr⟩:=ab hr
    have h0:=bU h0
    obtain ⟨l,T1,hr,zc⟩:=Ei hr
    obtain ⟨t',l0,hr,hX,fQ⟩:=gq hr
    split at hr
    ·rename_i l0' hl
     obtain ⟨e',rfl⟩:=du hl
     cases e'
     obtain ⟨hz,hr⟩:=ab hr
     have hz:=beq_eq hz
     obtain ⟨h1,hr⟩:=cE hr
     have h1:0<l0.length:=h1
     obtain ⟨h2,hr⟩:=cE hr
     have h2:l.length≤l0.length:=h2
     obtain ⟨h',k1,k2⟩:=pY hX hr
     refine ⟨_,_,_,k1,.put hd hX k2 (fun g S w a hI hv=>?_) (fun S2 hA=>?_)⟩
     ·have hv:=hv x (by simp [ho,Op.operands,Call.operands])
      rw [hx] at hv
      exact hv.atw
     ·have fN:=(hA _ (cF hX (.head _))).1.trans fQ
      have:=IX (P:=P) (ρ:=ρ) (n:=l0.length) (m:=l.length) (off:=0) (z:=e.size) ho (ss hE he) hk.ti.size (fun g w v hI hv=>by
       rw [hx,hz,←pg] at hv
       rcases hv.tX hI (by rw [pg];exact h0) fN with ⟨ad,_,rfl,rfl⟩ | ⟨b,s,cap,d,cR,rfl,k2,k3,k4,k5⟩
       ·simp at h1
       ·exact ⟨b,s,cap,d,cR,rfl,fun _=>k2 (by omega)⟩) fN (by rw [bT,pg];omega) (by have:=zc S2 (hA.mono fun i hi=>.tail _ hi);rwa [pg] at this) h2
      have e2:put (l0.flatMap (aJ t)) 0 (l.flatMap (aJ t))=(cat l (dr (len l) l0)).flatMap (aJ t):=by
       rw [lC,zp]
       unfold put
       rw [bT,List.take_zero,List.nil_append,Nat.zero_add];rfl
      rw [e2] at this
      exact this
    ·cases hr
   ·cases hr
  ·cases hr
 ·cases hr
def SC (E:Env) (T:Nat) (px:A) (h:H) (K:A→H→Fp→Option β):Option β:=match Dk E T with
 | some el=>match dx E.fm el with
  | some e=>match e.t,px with
   | some t,.ts X z off n=>bif Nat.blt 0 e.size then kY h X (fun t' l0=>match iz (.cB t') (.cB t) l0 with
    | some l0=>bif Nat.beq z e.size then gd (bl 0 n) (vq h X t (cat (tk (α:=t.T) off l0) (cat (rep n t.dO) (dr (α:=t.T) (aU off n) l0))) (fun h1=>K .dI h1 (.wr [kX X]))) else none
    | none=>none) else none
   | _,_=>none
  | none=>none
 | none=>none
theorem NF (hE:di P E) {T:Nat} {x:Operand} (ho:o.op = .call { callee:=.builtin .clear,args:=#[x],argTypes:=#[T] }) (hr:SC E T (ρ x) h K=some r):Out P o ρ h K r:=by
 have hd:∀c,o.op≠.defer c:=by rw [ho];intro c e;cases e
 unfold SC at hr
 split at hr
 ·rename_i el he
  split at hr
  ·rename_i e ht
   have hk:=hE.fm _ _ ht
   split at hr
   ·rename_i t X z off n Cu hx
    have pg:=hk.ts t Cu
    obtain ⟨h0,hr⟩:=ab hr
    have h0:=bU h0
    obtain ⟨t',l0,hr,hX,fQ⟩:=gq hr
    split at hr
    ·rename_i l0' hl
     obtain ⟨e',rfl⟩:=du hl
     cases e'
     obtain ⟨hz,hr⟩:=ab hr
     have hz:=beq_eq hz
     obtain ⟨h1,hr⟩:=cE hr
     have h1:0<n:=h1
     obtain ⟨h',k1,k2⟩:=pY hX hr
     refine ⟨_,_,_,k1,.put hd hX k2 (fun g S w a hI hv=>?_) (fun S2 hA=>gJ.cn fun g0 w0 a0 Zj y9=>?_)⟩
     ·have hv:=hv x (by simp [ho,Op.operands,Call.operands])
      rw [hx] at hv
      exact hv.ats
     ·have fN:=(hA _ (cF hX (.head _))).1.trans fQ
      have hle:off+n≤l0.length:=by
       have hv:=y9 x (by simp [ho,Op.operands,Call.operands])
       rw [hx,hz,←pg] at hv
       exact xu Zj (by rw [pg];exact h0) fN hv
      have:=Gn (P:=P) (ρ:=ρ) (n:=n) (off:=off*e.size) (z:=e.size) ho (ss hE he) hk.ti h0 (hk.tz t Cu) (fun g w v hI hv=>by
       rw [hx,hz] at hv
       cases hv with
       | xv _ _ _ _ _ _ hn=>omega
       | ts _ _ _ _ b cap s cR hn _ _ _ d qt=>exact ⟨b,s,cap,d,cR,rfl,fun _=>qt (by omega)⟩) h1 fN (by rw [bT,pg,←Nat.add_mul];exact zW _ hle)
      have e2:put (l0.flatMap (aJ t)) (off*e.size) (tj n (aJ t t.dO))=(cat (tk off l0) (cat (rep n t.dO) (dr (aU off n) l0))).flatMap (aJ t):=by
       rw [lC,lC,zo,zp,AU,pg]
       unfold put
       rw [mb,cQ,pg,←Nat.add_mul];rfl
      rw [e2] at this
      exact this
    ·cases hr
   ·cases hr
  ·cases hr
 ·cases hr
def Tu (mx:Bool) (px py:A) (h:H) (K:A→H→Fp→Option β):Option β:=match px,py with
 | .v (.int k m),.v (.int k' n)=>if k=k' then K (.v (.int k (bif mx then imax m n else YJ m n))) h .no else none
 | _,_=>none
theorem MB {Ts:Array TypeId} {x y:Operand} (ho:o.op = .call { callee:=.builtin .max,args:=#[x,y],argTypes:=Ts }) (hr:Tu true (ρ x) (ρ y) h K=some r):Out P o ρ h K r:=by
 unfold Tu at hr
 split at hr
 ·rename_i k m k' n hx hy
  split at hr
  ·rename_i hk;subst hk
   exact .pure hr (fun S2=>Mj ho hx hy) (by rw [ho];intro c e;cases e)
  ·cases hr
 ·cases hr
theorem MA {Ts:Array TypeId} {x y:Operand} (ho:o.op = .call { callee:=.builtin .min,args:=#[x,y],argTypes:=Ts }) (hr:Tu false (ρ x) (ρ y) h K=some r):Out P o ρ h K r:=by
 unfold Tu at hr
 split at hr
 ·rename_i k m k' n hx hy
  split at hr
  ·rename_i hk;subst hk
   exact .pure hr (fun S2=>Mi ho hx hy) (by rw [ho];intro c e;cases e)
  ·cases hr
 ·cases hr
def YC (f:FuncId) (fi ca:List A) (h:H) (K:A→H→Fp→Option β):Option β:=K (.fn f fi ca) h .no
theorem MD {f:FuncId} {fi ca:Array Operand} (ho:o.op = .makeFunc (.func f) fi ca) (hr:YC f (fi.toList.map ρ) (ca.toList.map ρ) h K=some r):Out P o ρ h K r:=
 .pure hr (fun S2=>yP ho) (by rw [ho];intro c e;cases e)
end
end
section
open Go.RowKit
section
variable {P:Program} {E:Env} {o:Oper} {ρ:Operand→A} {S:Hp}
def GA (es:List (A×A)) (n:Nat) (v:A):List (A×A):=es.modify n fun e=>(e.1,v)
theorem IV (hE:di P E) {T K T2:Nat} {X:Ref} {x y z:Operand} {e:dK} {es:List (A×A)} {vz:A} {n:Nat} {old:A} (ho:o.op = .mapUpdate T x y z) (hT:P.underlying T=some (.map K T2)) (he:dx E.fm K=some e) (ht:oI E e.d=true) {b:Bool} (hs:lB E K e.d (ρ y) (ρ y)=some b)
  (hx:ρ x = .mp X) (hm:S.ob X.id=some (.d_ (.map es))) (TB:∀g v,V g (ρ z) v→V g vz v) (hr:nD (lB E K e.d (ρ y)) es 0=some (some (n,old)))
  (aeA:∀g v q v',es[n]?=some q→V g (ρ y) v→V g q.1 v'→v'=v∧Instr.sameBits 10000 v v=true):gJ P o ρ S (S.set X.id (.d_ (.map (GA es n vz)))) .dI:=by
 intro g w a next Q hI hv K'
 have e1:=hx▸hv x (by simp [ho,Op.operands])
 have e2:=hv y (by simp [ho,Op.operands])
 have e3:=hv z (by simp [ho,Op.operands])
 obtain ⟨HD,s,lM,clock,h1,h2,h3,h4⟩:=e1.yY hI hm
 have hc:=qj hE w false he ht hs e2
 rcases h4.find (w:=w) hE he e2 hr with ⟨hh,_⟩ | ⟨n',p,x',hh,su,_,hn,hf⟩
 ·cases hh
 cases hh
 obtain ⟨q,hq⟩:∃q,es[n]?=some q:=⟨_,zD hn⟩
 obtain ⟨k1,k2⟩:=aeA g _ q _ hq e2 (h4.2 n x' q su hq).1
 have JW:wI g (lM.modify n fun e=>{ e with key:=a.eval y,val:=a.eval z }) (GA es n vz):=by
  refine ⟨by simp [GA,h4.1],fun m c r hy hz=>?_⟩
  unfold GA at hz
  rw [List.getElem?_modify] at hz
  rw [Array.getElem?_modify] at hy
  by_cases hmn:n=m
  ·subst hmn
   simp only [if_true,su,hq,Option.map_some,Option.map_eq_map,zI] at hy hz
   subst hy hz
   exact ⟨by rw [←k1];exact (h4.2 n x' q su hq).1,TB _ _ e3⟩
  ·simp only [if_neg hmn,Option.map_eq_map,Option.map_id'] at hy hz
   exact h4.2 m c r hy hz
 obtain ⟨q1,q2⟩:=hI.yq (pF:=clock) hm h2 h3 JW
 have E1:(Instr.keyThatStays (((lM[n]?).map (·.key)).getD (a.eval y)) (a.eval y)).run P w = .ok (a.eval y) w:=by
  rw [su]
  simp only [Option.map_some,Option.getD_some,k1]
  simp [Instr.keyThatStays,k2]
 have iO:(Instr.mapUpdate T (.map (some HD)) (a.eval y) (a.eval z)).run P w = .ok () { w with heap:=w.heap.setIfInBounds HD (.map (lM.modify n fun e=>{ e with key:=a.eval y,val:=a.eval z }) clock) }:=by
  simp only [Instr.mapUpdate,Sem.run_bind,run_underlying hT,Result.andThen_ok,MapKept.run_getObj_map h3,hc,hf,E1,MapKept.run_setObj_map _ h3]
 unfold Oper.wp
 simp only [execOp,ho,h1,Sem.run_bind,iO,Result.andThen_ok,Sem.run_pure]
 exact K' _ g _ (.dI _) q1 q2
end
def x6 {β:Type} (f:A→Option Bool):List (A×A)→Nat→(Option (Nat×A)→Option β)→Option β
 | [],_,K=>K none
 | (k,v)::r,i,K=>match f k with
  | some b=>br b (K (some (i,v))) (x6 f r (i+1) K)
  | none=>none
theorem sI {β:Type} {f:A→Option Bool} {r:β}:∀(es:List (A×A)) (i:Nat) (K:Option (Nat×A)→Option β),x6 f es i K=some r→∃x,K x=some r∧nD f es i=some x
 | [],i,K,h=>⟨none,h,rfl⟩
 | (k,v)::es,i,K,h=>by
  unfold x6 at h
  split at h
  ·rename_i b hb
   rcases tS h with ⟨rfl,h1⟩ | ⟨rfl,h1⟩
   ·exact ⟨_,h1,by unfold nD;rw [hb]⟩
   ·obtain ⟨x,k1,k2⟩:=sI es (i+1) K h1
    exact ⟨x,k1,by unfold nD;rw [hb];exact k2⟩
  ·cases h
def ng:(t:Ty)→t.T→t.T→Bool
 | .int _,x,y=>aj x y
 | .pair a b,x,y=>ng a x.1 y.1 && ng b x.2 y.2
 | _,_,_=>false
def oO {κ α:Type} (p:κ→Bool):List (κ×α)→Nat→Option (Nat×α)
 | [],_=>none
 | (k,v)::r,i=>bif p k then some (i,v) else oO p r (i+1)
def I9 {κ α:Type} (l:List (κ×α)) (n:Nat) (v:α):List (κ×α):=l.modify n fun e=>(e.1,v)
def Je {κ α:Type} (l:List (κ×α)) (n:Nat):List (κ×α):=l.eraseIdx n
def pb (E:Env) (T:Nat) (k:IntKind):Bool:=match dx E.fm T with
 | some ⟨.int k',1,_,_,_,_,_⟩=>if k'=k then true else false
 | _=>false
def dk (E:Env):List Field→Nat→Ty→Bool
 | [fd],i,.int k=>Nat.beq fd.offset i && pb E fd.type k
 | fd::fs,i,.pair (.int k) t=>Nat.beq fd.offset i && pb E fd.type k && dk E fs (i+1) t
 | _,_,_=>false
def Jm (E:Env) (K:Nat) (e:dK) (ka:Bool) (t:Ty):Bool:=match e.d with
 | .int k=>!ka && (match t with
  | .int k'=>if k'=k then true else false
  | _=>false)
 | .struct fs=>ka && E.eqs.any (Nat.beq K) && dk E fs.toList 0 t
 | _=>false
theorem tC {E:Env} {T:Nat} {k:IntKind} (h:pb E T k=true):∃e,dx E.fm T=some e∧e.d = .int k∧e.size=1:=by
 unfold pb at h
 split at h
 ·rename_i k' _ _ _ _ _ ht
  split at h
  ·rename_i hk;subst hk;exact ⟨_,ht,rfl,rfl⟩
  ·cases h
 ·cases h
theorem Fi {E:Env} {T:Nat} {k:IntKind} {m n:Int} (h:pb E T k=true) (f:Nat):Aq E (f+1) T [.v (.int k m)] [.v (.int k n)]=some (aj m n):=by
 obtain ⟨e,h1,h2,_⟩:=tC h
 unfold Aq
 rw [h1]
 simp only [h2,if_true]
theorem EN {E:Env} (f:Nat):∀(fs:List Field) (i:Nat) (t:Ty),dk E fs i t=true→∀(p q:List A) (x y:t.T),p.length=i→q.length=i→Nu E (Aq E (f+1)) fs (p++aJ t x) (q++aJ t y)=some (ng t x y)
 | [],_,_,h=>by simp [dk] at h
 | [fd],i,.int k,h=>fun p q x y hp hq=>by
  simp only [dk,zC] at h
  have h1:=beq_eq h.1
  obtain ⟨e,e1,e2,e3⟩:=tC h.2
  unfold Nu
  rw [e1]
  simp only [e3,h1]
  rw [←hp,List.drop_left,hp,←hq,List.drop_left]
  have:=Fi (m:=x) (n:=y) h.2 f
  simp only [aJ,List.take_succ_cons,List.take_zero,this,Nu]
  simp [ng,j7]
 | fd::fs,i,.pair (.int k) t,h=>fun p q x y hp hq=>by
  have h:(Nat.beq fd.offset i && pb E fd.type k && dk E fs (i+1) t)=true:=by
   cases fs<;>exact h
  simp only [zC] at h
  have h1:=beq_eq h.1.1
  obtain ⟨e,e1,e2,e3⟩:=tC h.1.2
  unfold Nu
  rw [e1]
  simp only [e3,h1]
  have ih:=EN f fs (i+1) t h.2 (p++[A.v (.int k x.1)]) (q++[A.v (.int k y.1)]) x.2 y.2 (by simp [hp]) (by simp [hq])
  have ex:∀(p:List A) (x:(Ty.pair (.int k) t).T),p++aJ (.pair (.int k) t) x=p++[A.v (.int k x.1)]++aJ t x.2:=fun p x=>by
   show p++([A.v (.int k x.1)]++aJ t x.2)=_
   rw [List.append_assoc]
  rw [ex,ex,ih]
  have hd1:((p++[A.v (.int k x.1)]++aJ t x.2).drop i).take 1=[A.v (.int k x.1)]:=by rw [←hp,List.append_assoc,List.drop_left];rfl
  have hd2:((q++[A.v (.int k y.1)]++aJ t y.2).drop i).take 1=[A.v (.int k y.1)]:=by rw [←hq,List.append_assoc,List.drop_left];rfl
  rw [hd1,hd2]
  exact congrArg (fun z:Option Bool=>match z,some (ng t x.2 y.2) with
   | some a,some b=>some (j7 a b)
   | _,_=>none) (Fi (m:=x.1) (n:=y.1) h.1.2 f)
 | [_],_,.bool,h=>by simp [dk] at h
 | _::_::_,_,.bool,h=>by simp [dk] at h
 | _::_::_,_,.int _,h=>by simp [dk] at h
 | _::_,_,.unit,h=>by simp [dk] at h
 | _::_,_,.pair .bool _,h=>by simp [dk] at h
 | _::_,_,.pair .unit _,h=>by simp [dk] at h
 | _::_,_,.pair (.pair _ _) _,h=>by simp [dk] at h
 | _::_,_,.pair (.arr _ _) _,h=>by simp [dk] at h
 | _::_,_,.pair (.cB _) _,h=>by simp [dk] at h
 | _::_,_,.pair (.ptr _) _,h=>by simp [dk] at h
 | _::_,_,.pair (.dH _) _,h=>by simp [dk] at h
 | _::_,_,.pair (.kz _ _) _,h=>by simp [dk] at h
 | _::_,_,.pair (.sU _ _) _,h=>by simp [dk] at h
 | _::_,_,.pair (.mp _) _,h=>by simp [dk] at h
 | _::_,_,.arr _ _,h=>by simp [dk] at h
 | _::_,_,.cB _,h=>by simp [dk] at h
 | _::_,_,.ptr _,h=>by simp [dk] at h
 | _::_,_,.dH _,h=>by simp [dk] at h
 | _::_,_,.kz _ _,h=>by simp [dk] at h
 | _::_,_,.sU _ _,h=>by simp [dk] at h
 | _::_,_,.mp _,h=>by simp [dk] at h
theorem y3 {E:Env} {K:Nat} {e:dK} {ka:Bool} {t:Ty} (he:dx E.fm K=some e) (h:Jm E K e ka t=true) (x y:t.T):lB E K e.d (da ka t x) (da ka t y)=some (ng t x y):=by
 unfold Jm at h
 split at h
 ·rename_i k hd
  cases ka with
  | true=>simp at h
  | false=>
   simp only [Bool.not_false,Bool.true_and] at h
   split at h
   ·split at h
    ·rename_i k' hk
     subst hk
     unfold lB da
     simp only [hd,cond_false,aJ,if_true]
     rfl
    ·cases h
   ·cases h
 ·rename_i fs hd
  simp only [zC] at h
  obtain ⟨⟨rfl,hq⟩,hs⟩:=h
  have h1:=EN 0 fs.toList 0 t hs [] [] x y rfl rfl
  simp only [List.nil_append] at h1
  unfold lB da
  simp only [hd,cond_true,kI,Bool.and_self,A.cells]
  show Aq E 2 K (aJ t x) (aJ t y)=some (ng t x y)
  unfold Aq
  rw [he]
  simp only [hd,hq,cond_true]
  exact h1
 ·cases h
theorem mP {E:Env} {K:Nat} {e:dK} {ka va:Bool} {t tv:Ty} (he:dx E.fm K=some e) (h:Jm E K e ka t=true) (x:t.T):∀(es:List (t.T×tv.T)) (i:Nat),
  nD (lB E K e.d (da ka t x)) (es.map fun e=>(da ka t e.1,da va tv e.2)) i=some ((oO (ng t x) es i).map fun p=>(p.1,da va tv p.2))
 | [],i=>rfl
 | (k,v)::es,i=>by
  rw [List.map_cons]
  unfold nD oO
  simp only [y3 he h x k]
  cases ng t x k with
  | true=>rfl
  | false=>exact mP he h x es (i+1)
theorem y8 {a b:Int} (h:aj a b=true):a=b:=by unfold aj at h;exact of_decide_eq_true h
theorem xR {E:Env}:∀(fs:List Field) (i:Nat) (t:Ty),dk E fs i t=true→∀x y:t.T,ng t x y=true→x=y
 | [],_,_,h=>by simp [dk] at h
 | [_],_,.int _,_=>fun _ _ e=>y8 e
 | fd::fs,i,.pair (.int k) t,h=>fun x y e=>by
  have h:(Nat.beq fd.offset i && pb E fd.type k && dk E fs (i+1) t)=true:=by
   cases fs<;>exact h
  simp only [zC] at h
  have e:(aj x.1 y.1 && ng t x.2 y.2)=true:=e
  simp only [zC] at e
  exact Prod.ext (y8 e.1) (xR fs (i+1) t h.2 _ _ e.2)
 | [_],_,.bool,h=>by simp [dk] at h
 | _::_::_,_,.bool,h=>by simp [dk] at h
 | _::_::_,_,.int _,h=>by simp [dk] at h
 | _::_,_,.unit,h=>by simp [dk] at h
 | _::_,_,.pair .bool _,h=>by simp [dk] at h
 | _::_,_,.pair .unit _,h=>by simp [dk] at h
 | _::_,_,.pair (.pair _ _) _,h=>by simp [dk] at h
 | _::_,_,.pair (.arr _ _) _,h=>by simp [dk] at h
 | _::_,_,.pair (.cB _) _,h=>by simp [dk] at h
 | _::_,_,.pair (.ptr _) _,h=>by simp [dk] at h
 | _::_,_,.pair (.dH _) _,h=>by simp [dk] at h
 | _::_,_,.pair (.kz _ _) _,h=>by simp [dk] at h
 | _::_,_,.pair (.sU _ _) _,h=>by simp [dk] at h
 | _::_,_,.pair (.mp _) _,h=>by simp [dk] at h
 | _::_,_,.arr _ _,h=>by simp [dk] at h
 | _::_,_,.cB _,h=>by simp [dk] at h
 | _::_,_,.ptr _,h=>by simp [dk] at h
 | _::_,_,.dH _,h=>by simp [dk] at h
 | _::_,_,.kz _ _,h=>by simp [dk] at h
 | _::_,_,.sU _ _,h=>by simp [dk] at h
 | _::_,_,.mp _,h=>by simp [dk] at h
theorem CS (n:Nat) (k:IntKind) (m:Int):Instr.sameBits n (.int k m) (.int k m)=true:=by cases n<;>simp [Instr.sameBits]
theorem xS {E:Env}:∀(fs:List Field) (i:Nat) (t:Ty),dk E fs i t=true→∀(x:t.T) (g:G) (vs:List Value),Vs g (aJ t x) vs→(∀g' LK,Vs g' (aJ t x) LK→LK=vs)∧∀n,((vs.zip vs).all fun (a,b)=>Instr.sameBits n a b)=true
 | [],_,_,h=>by simp [dk] at h
 | [_],_,.int k,_=>fun x g vs hv=>by
  obtain ⟨v,rfl,h1,_⟩:=Vs.qo (show Vs g [.v (.int k x)] vs from hv)
  cases h1
  refine ⟨fun g' LK Ct=>?_,fun n=>?_⟩
  ·obtain ⟨v',rfl,Nb,_⟩:=Vs.qo (show Vs g' [.v (.int k x)] LK from Ct)
   cases Nb;rfl
  ·exact (Bool.and_true _).trans (CS n k x)
 | fd::fs,i,.pair (.int k) t,h=>fun x g vs hv=>by
  have h:(Nat.beq fd.offset i && pb E fd.type k && dk E fs (i+1) t)=true:=by
   cases fs<;>exact h
  simp only [zC] at h
  obtain ⟨v1,v2⟩:=Vs.split (show Vs g (aJ (.int k) x.1++aJ t x.2) vs from hv)
  obtain ⟨r1,r2⟩:=xS fs (i+1) t h.2 x.2 g _ v2
  obtain ⟨v,e1,h1,_⟩:=Vs.qo (show Vs g [.v (.int k x.1)] _ from v1)
  cases h1
  have Ht:vs=Value.int k x.1::vs.drop (aJ (.int k) x.1).length:=by
   have:=zP (aJ (.int k) x.1).length vs
   rw [e1] at this
   exact this.symm
  refine ⟨fun g' LK Ct=>?_,fun n=>?_⟩
  ·obtain ⟨v1',v2'⟩:=Vs.split (show Vs g' (aJ (.int k) x.1++aJ t x.2) LK from Ct)
   obtain ⟨v',e1',Nb,_⟩:=Vs.qo (show Vs g' [.v (.int k x.1)] _ from v1')
   cases Nb
   have ad9:LK=Value.int k x.1::LK.drop (aJ (.int k) x.1).length:=by
    have:=zP (aJ (.int k) x.1).length LK
    rw [e1'] at this
    exact this.symm
   rw [ad9,Ht,r1 _ _ v2']
  ·rw [Ht,List.zip_cons_cons,List.all_cons,r2 n]
   exact (Bool.and_true _).trans (CS n k x.1)
 | [_],_,.bool,h=>by simp [dk] at h
 | _::_::_,_,.bool,h=>by simp [dk] at h
 | _::_::_,_,.int _,h=>by simp [dk] at h
 | _::_,_,.unit,h=>by simp [dk] at h
 | _::_,_,.pair .bool _,h=>by simp [dk] at h
 | _::_,_,.pair .unit _,h=>by simp [dk] at h
 | _::_,_,.pair (.pair _ _) _,h=>by simp [dk] at h
 | _::_,_,.pair (.arr _ _) _,h=>by simp [dk] at h
 | _::_,_,.pair (.cB _) _,h=>by simp [dk] at h
 | _::_,_,.pair (.ptr _) _,h=>by simp [dk] at h
 | _::_,_,.pair (.dH _) _,h=>by simp [dk] at h
 | _::_,_,.pair (.kz _ _) _,h=>by simp [dk] at h
 | _::_,_,.pair (.sU _ _) _,h=>by simp [dk] at h
 | _::_,_,.pair (.mp _) _,h=>by simp [dk] at h
 | _::_,_,.arr _ _,h=>by simp [dk] at h
 | _::_,_,.cB _,h=>by simp [dk] at h
 | _::_,_,.ptr _,h=>by simp [dk] at h
 | _::_,_,.dH _,h=>by simp [dk] at h
 | _::_,_,.kz _ _,h=>by simp [dk] at h
 | _::_,_,.sU _ _,h=>by simp [dk] at h
 | _::_,_,.mp _,h=>by simp [dk] at h
theorem Jl {E:Env} {K:Nat} {e:dK} {ka:Bool} {t:Ty} (h:Jm E K e ka t=true) {x y:t.T} (hxy:ng t x y=true) {g:G} {v v':Value} (h1:V g (da ka t x) v) (h2:V g (da ka t y) v'):v'=v∧Instr.sameBits 10000 v v=true:=by
 unfold Jm at h
 split at h
 ·rename_i k hd
  cases ka with
  | true=>simp at h
  | false=>
   simp only [Bool.not_false,Bool.true_and] at h
   split at h
   ·split at h
    ·have:=y8 hxy
     subst this
     cases h1;cases h2
     exact ⟨rfl,CS _ _ _⟩
    ·cases h
   ·cases h
 ·rename_i fs hd
  simp only [zC] at h
  obtain ⟨⟨rfl,hq⟩,hs⟩:=h
  have:=xR _ _ _ hs _ _ hxy
  subst this
  have c1:=h1.cells rfl
  have c2:=h2.cells rfl
  obtain ⟨us,rfl⟩:=h1.Ci rfl
  obtain ⟨us',rfl⟩:=h2.Ci rfl
  obtain ⟨r1,r2⟩:=xS _ _ _ hs x g _ c1
  have e:=r1 _ _ c2
  have e:us'=us:=Array.ext' e
  subst e
  refine ⟨rfl,?_⟩
  have:=r2 9999
  simp only [Value.cells] at this
  rw [show (10000:Nat)=9999+1 from rfl,Instr.sameBits]
  simp only [this,Bool.and_true,beq_self_eq_true]
 ·cases h
end
section
variable {α β σ ρ:Type}
theorem nL {x:Option α} {f:α→Option β} {a:α} {r:Option β} (h:x=some a) (k:f a=r):bd x f=r:=by rw [h];exact k
theorem Cg {x:Option α} {f:α→Option β} {a:α} (h:x=some a):bd x f=f a:=by rw [h];rfl
theorem rV {x:Option α} {n:Option β} {s:α→Option β} {a:α} (h:x=some a):opt x n s=s a:=by rw [h];rfl
theorem tZ {x:Option α} {n:Option β} {s:α→Option β} (h:x=none):opt x n s=n:=by rw [h];rfl
theorem By {f:(σ→Option ρ)→Option ρ} {K:σ→Option ρ} {s:σ} (h:∀k,f k=k s):jn f K=K s:=by rw [cJ];exact h K
theorem oA {b:Bool} {x y:Option α} (h:b=true):br b x y=x:=by rw [h];rfl
theorem uH {b:Bool} {x y:Option α} (h:b=false):br b x y=y:=by rw [h];rfl
theorem aX {a b:Int} {x y:Option α} (h:a<b):br (bw a b) x y=x:=by unfold bw;rw [decide_eq_true h];rfl
theorem a6 {a b:Int} {x y:Option α} (h:¬a<b):br (bw a b) x y=y:=by unfold bw;rw [decide_eq_false h];rfl
theorem aY {a b:Int} {x y:Option α} (h:a≤b):br (cX a b) x y=x:=by unfold cX;rw [decide_eq_true h];rfl
theorem a_ {a b:Int} {x y:Option α} (h:¬a≤b):br (cX a b) x y=y:=by unfold cX;rw [decide_eq_false h];rfl
theorem ao {a b:Int} {x y:Option α} (h:a=b):br (aj a b) x y=x:=by unfold aj;rw [decide_eq_true h];rfl
theorem au {a b:Int} {x y:Option α} (h:¬a=b):br (aj a b) x y=y:=by unfold aj;rw [decide_eq_false h];rfl
theorem bY {a:Int} {x:Option α}:gd (bf a) x=br (cX 0 a) x none:=by unfold cX;by_cases h:0≤a<;>simp [gd,bf,h,br]
theorem bX {a b:Nat} {x:Option α}:gd (bl a b) x=br (bw a b) x none:=by unfold bw;by_cases h:a<b<;>simp [gd,bl,h,br]
theorem b6 {a b:Nat} {x:Option α}:gd (dv a b) x=br (cX a b) x none:=by unfold cX;by_cases h:a≤b<;>simp [gd,dv,h,br]
theorem b7 {a b:Nat} {x:Option α}:gd (neq a b) x=br (aj a b) x none:=by
 unfold aj
 by_cases h:a=b
 ·simp [gd,neq,h,br]
 ·have h2:¬(a:Int)=b:=by omega
  simp [gd,neq,h,h2,br]
theorem b9 {a b:Int} {x:Option α}:gd (P5 a b) x=br (aj a b) x none:=by unfold aj;by_cases h:a=b<;>simp [gd,P5,h,br]
theorem b8 {a:Int} {x:Option α}:gd (P4 a) x=br (aj a 0) none x:=by unfold aj;by_cases h:a=0<;>simp [gd,P4,h,br]
theorem bD {b:Bool} {x y:Option α}:br (aC b) x y=br b y x:=by cases b<;>rfl
theorem z8 {a b:Bool} {x y:Option α}:br (j7 a b) x y=br a (br b x y) y:=by cases a<;>cases b<;>rfl
theorem wrap_i64 (n:Int):IntKind.i64.wrap n=(n+9223372036854775808)%18446744073709551616-9223372036854775808:=by
 simp [IntKind.wrap,IntKind.bits,IntKind.signed]
 split<;>omega
theorem wrap_u64 (n:Int):IntKind.u64.wrap n=n%18446744073709551616:=by simp [IntKind.wrap,IntKind.bits,IntKind.signed]
theorem aH {a b:Int} (h : -9223372036854775808≤a+b∧a+b≤9223372036854775807):ae .i64 a b=a+b:=by unfold ae;rw [wrap_i64];omega
theorem aL {a b:Int} (h : -9223372036854775808≤a-b∧a-b≤9223372036854775807):aK .i64 a b=a-b:=by unfold aK;rw [wrap_i64];omega
theorem aZ {a b:Int} (h : -9223372036854775808≤a*b∧a*b≤9223372036854775807):fI .i64 a b=a*b:=by unfold fI;rw [wrap_i64];omega
theorem bM {a:Int} (h : -9223372036854775808≤a∧a≤9223372036854775807):kQ .i64 a=a:=by unfold kQ;rw [wrap_i64];omega
theorem bS {a:Int} (h:0≤a∧a≤18446744073709551615):kQ .u64 a=a:=by unfold kQ;rw [wrap_u64];omega
theorem aS {a b:Int} (h:0≤a):eg a b=a%b:=Int.tmod_eq_emod_of_nonneg h
theorem QO {a b:Int} (h:0≤a):a.tdiv b=a / b:=Int.tdiv_eq_ediv_of_nonneg h
theorem a9 {a b:Int} (h:0≤a∧a≤9223372036854775807∧0<b):iI .i64 a b=a / b:=by
 unfold iI
 rw [QO h.1,wrap_i64]
 have h1:0≤a / b:=Int.ediv_nonneg h.1 (by omega)
 have h2:a / b≤a:=Int.ediv_le_self b h.1
 omega
theorem cK (n:Nat):nN (n:Int)=n:=zE n
theorem cz (n:Nat):zN n=(n:Int):=rfl
theorem cH (a:Int):nN a=a.toNat:=rfl
theorem gA {d:α} {l:List α} {i:Nat} (h:i<l.length):nth d l i=l[i]:=by unfold nth;rw [zA,zD h];rfl
theorem bj {d x:α} {l:List α} {i:Nat} (h:l[i]?=some x):nth d l i=x:=by unfold nth;rw [zA,h];rfl
theorem Mr {d x:α} {l:List α} {i j:Nat}:nth d (aT l i x) j=if i=j∧j<l.length then x else nth d l j:=by
 unfold nth aT
 rw [zA,zA,List.getElem?_set]
 by_cases h:i=j
 ·subst h
  by_cases h1:i<l.length
  ·simp [h1]
  ·simp [h1]
 ·simp [h]
theorem PM {l:List (Option (List α))} {j:Nat} {r:List α}:aE l j=some r↔l[j]?=some (some r):=by
 unfold aE
 rw [zA]
 cases h:l[j]? with
 | none=>simp
 | some x=>simp
theorem jY {l:List (Option (List α))} {j:Nat} {r:List α} (h:aE l j=some r):j<l.length:=(zB.1 (PM.1 h)).1
theorem uO {l:List (Option (List α))} {i j:Nat} {x:Option (List α)} (h:i<l.length):aE (aT l i x) j=if i=j then x else aE l j:=by
 unfold aE aT
 rw [zA,zA,List.getElem?_set]
 by_cases e:i=j
 ·subst e;simp [h]
 ·simp [e]
theorem aB {l:List (Option (List α))} {j:Nat} {r:List α} {x:Option (List α)} (h:aE l j=some r):aE (aT l j x) j=x:=by rw [uO (jY h),if_pos rfl]
theorem rY {d x:α} {l:List α} {i:Nat} (h:i<l.length):nth d (aT l i x) i=x:=by rw [Mr,if_pos ⟨rfl,h⟩]
theorem mJ {l:List (Option (List α))} {j:Nat} {x:Option (List α)}:aE (cat l [x]) j=if j=l.length then x else aE l j:=by
 unfold aE cat
 rw [zA,zA]
 by_cases e:j=l.length
 ·subst e;simp
 ·rw [if_neg e]
  by_cases h1:j<l.length
  ·rw [zK h1]
  ·rw [zb (by simp;omega),zb (by omega)]
theorem Ms {d x:α} {l:List α} {j:Nat}:nth d (cat l [x]) j=if j=l.length then x else nth d l j:=by
 unfold nth cat
 rw [zA,zA]
 by_cases e:j=l.length
 ·subst e;simp
 ·rw [if_neg e]
  by_cases h1:j<l.length
  ·rw [zK h1]
  ·rw [zb (by simp;omega),zb (by omega)]
theorem dn {l:List (Option (List α))} {x:Option (List α)}:aE (cat l [x]) l.length=x:=by rw [mJ,if_pos rfl]
theorem rZ {d x:α} {l:List α}:nth d (cat l [x]) l.length=x:=by rw [Ms,if_pos rfl]
theorem fF {n:Nat} {l:List α}:(tk n l).length=min n l.length:=List.length_take
theorem fK {n:Nat} {l:List α}:(dr n l).length=l.length-n:=List.length_drop
theorem dL {n:Nat} {x:α}:(rep n x).length=n:=List.length_replicate
theorem db {d:α} {l:List α} {n:Nat} {x:α}:(aT l n x).length=l.length:=zM
theorem lA {l k:List α}:(cat l k).length=l.length+k.length:=zY
theorem bt (l:List α):len l=l.length:=rfl
theorem Kw {S R B:List α} {i m m' k:Nat} (hi:i<S.length) (hk:k=S.length-(i+1)) (hm:m=i+k) (GO:m'=i+k):tk m (cat (tk m' (cat (tk i S) (cat (tk k (dr (i+1) S)) R))) B)=S.eraseIdx i:=by
 have e1:tk k (dr (i+1) S)=S.drop (i+1):=za (by simp [dr];omega)
 rw [e1]
 unfold tk cat
 have hl:(S.take i++S.drop (i+1)).length=i+k:=by simp;omega
 have h2:List.take m' (List.take i S++(List.drop (i+1) S++R))=List.take i S++List.drop (i+1) S:=by
  rw [←List.append_assoc];exact List.take_left' (hl.trans GO.symm)
 rw [h2]
 exact (List.take_left' (hl.trans hm.symm)).trans (List.eraseIdx_eq_take_drop_succ _ _).symm
def yk (f:(σ→Option α)→σ→Option α) (s:σ) (x:Option α) (k:Nat):Prop:=∀n,k<n→iter f n s=x
theorem yk.stop {f:(σ→Option α)→σ→Option α} {s:σ} {x:Option α} (k:Nat) (h:∀g,f g s=x):yk f s x k:=fun n hn=>by
 cases n with
 | zero=>omega
 | succ n=>exact h _
theorem yk.step {f:(σ→Option α)→σ→Option α} {s s':σ} {x:Option α} {k:Nat} (h:yk f s' x k) (e:∀g:σ→Option α,f g s=g s'):yk f s x (k+1):=fun n hn=>by
 cases n with
 | zero=>omega
 | succ n=>exact (e _).trans (h n (by omega))
theorem yk.loop {f:(σ→Option α)→σ→Option α} {s:σ} {x:Option α} {k:Nat} (h:yk f s x k) (hk:k<lD):Go.Bm.loop f s=x:=by rw [qa];exact h lD hk
theorem xQ {f:(σ→Option α)→σ→Option α} {s:σ}:Go.Bm.loop f s=f (fun s=>f (fun s=>f (iter f 9223372036854775805) s) s) s:=by rw [qa];rfl
theorem dN {f:(σ→Option α)→σ→Option α} (mk:Nat→σ) (res:Nat→Option α) (N:Nat) (hN:N<lD) (he:∀g,f g (mk N)=res N) (h:∀k,k<N→(∀g,f g (mk k)=res k)∨(res k=res (k+1)∧∀g,f g (mk k)=g (mk (k+1)))):Go.Bm.loop f (mk 0)=res 0:=by
  have key:∀m k:Nat,k+m=N→yk f (mk k) (res k) m:=by
    intro m
    induction m with
    | zero=>
              intro k hk;obtain rfl:k=N:=by omega
              exact .stop 0 he
    | succ m ih=>
      intro k hk
      rcases h k (by omega) with h1 | ⟨h1,h2⟩
      · exact .stop _ h1
      · rw [h1];exact .step (ih (k+1) (by omega)) (fun g=>h2 g)
  exact (key N 0 (by omega)).loop hN
theorem Jf {f:(σ→Option α)→σ→Option α} (I:Nat→σ→Prop) (Q:Option α→Prop) (h:∀m s,I m s→(∃x,Q x∧∀g,f g s=x)∨∃m' s',m' < m∧I m' s'∧∀g,f g s=g s') {m:Nat} {s:σ} (hs:I m s) (hm:m<lD):Q (Go.Bm.loop f s):=by
 have key:∀m s,I m s→∃x,Q x∧yk f s x m:=by
  intro m
  induction m using Nat.strongRecOn with
  | _ m ih=>
   intro s hs
   rcases h m s hs with ⟨x,hr,e⟩ | ⟨m',s',hm,hs',e⟩
   ·exact ⟨x,hr,.stop m e⟩
   ·obtain ⟨x,hr,k⟩:=ih m' hm s' hs'
    refine ⟨x,hr,fun n hn=>?_⟩
    cases n with
    | zero=>omega
    | succ n=>exact (e _).trans (k n (by omega))
 obtain ⟨x,hx,k⟩:=key m s hs
 rw [k.loop hm];exact hx
end
theorem bits_mask (a:Int) (j:Nat) (hj:j<63):bits .and .i64 a (2^j-1)=a%2^j:=by
 have h1:(BitVec.ofInt 64 (2^j-1)).toNat=2^j-1:=by
  rw [BitVec.toNat_ofInt]
  have h2:(2:Int)^j<2^64:=by
   have:(2:Nat)^j<2^64:=Nat.pow_lt_pow_right (by omega) (by omega)
   exact_mod_cast this
  have h3:(0:Int)<2^j:=by
   have:0<(2:Nat)^j:=Nat.pow_pos (by omega)
   exact_mod_cast this
  rw [Int.emod_eq_of_lt (by omega) (by simpa using (by omega:(2:Int)^j-1<2^64))]
  have:((2:Int)^j-1)=(((2:Nat)^j-1:Nat):Int):=by
   have:0<(2:Nat)^j:=Nat.pow_pos (by omega)
   rw [Int.natCast_sub (by omega)];simp
  rw [this];simp
 have h4:((BitVec.ofInt 64 a).toNat &&& (2^j-1))=(BitVec.ofInt 64 a).toNat%2^j:=Nat.and_two_pow_sub_one_eq_mod _ _
 have h5:(((BitVec.ofInt 64 a).toNat%2^j:Nat):Int)=a%2^j:=by
  rw [BitVec.toNat_ofInt]
  have hd:(2:Int)^j ∣ 2^64:=⟨2^(64-j),by rw [←Int.pow_add];congr 1;omega⟩
  rw [Int.natCast_emod,Int.toNat_of_nonneg (Int.emod_nonneg _ (by decide))]
  have:=Int.emod_emod_of_dvd a hd
  simpa using this
 have h6:0≤a%2^j:=Int.emod_nonneg _ (by
  have:0<(2:Nat)^j:=Nat.pow_pos (by omega)
  have:(0:Int)<2^j:=by exact_mod_cast this
  omega)
 have h7:a%2^j<9223372036854775808:=by
  have hp:(0:Int)<2^j:=by
   have:0<(2:Nat)^j:=Nat.pow_pos (by omega)
   exact_mod_cast this
  have h8:=Int.emod_lt_of_pos a hp
  have h9:(2:Int)^j≤2^63:=by
   have:(2:Nat)^j≤2^63:=Nat.pow_le_pow_right (by omega) (by omega)
   exact_mod_cast this
  omega
 have CA:(BitVec.ofInt 64 a &&& BitVec.ofInt 64 (2^j-1)).toNat=(BitVec.ofInt 64 a).toNat%2^j:=by rw [BitVec.toNat_and,h1,h4]
 show IntKind.i64.wrap ((BitVec.ofInt 64 a &&& BitVec.ofInt 64 (2^j-1)).toNat:Int)=_
 rw [CA,h5]
 exact (by rw [wrap_i64];omega)
theorem l7 {n:Nat} {a:Int} (h0:0≤a) (h1:a<2^n):(BitVec.ofInt n a).toNat=a.toNat:=by
 rw [BitVec.toNat_ofInt,Int.emod_eq_of_lt h0 (by exact_mod_cast h1)]
theorem Ce {a b:Int} (ha:0≤a∧a<9223372036854775808) (hb:0≤b∧b<9223372036854775808):bits .or .i64 a b=((a.toNat ||| b.toNat:Nat):Int):=by
 show IntKind.i64.wrap ((BitVec.ofInt 64 a ||| BitVec.ofInt 64 b).toNat:Int)=_
 rw [BitVec.toNat_or,l7 ha.1 (by omega),l7 hb.1 (by omega)]
 have:a.toNat ||| b.toNat<2^63:=Nat.or_lt_two_pow (by omega) (by omega)
 exact (by rw [wrap_i64];omega)
theorem I8 {a m:Int} (j:Nat) (h0:0≤a) (hm:m=2^j-1):((a.toNat &&& m.toNat:Nat):Int)=a%2^j:=by
 have hp:0<(2:Nat)^j:=Nat.pow_pos (by omega)
 have e:m.toNat=2^j-1:=by
  rw [hm]
  have:((2:Int)^j-1)=((2^j-1:Nat):Int):=by rw [Int.natCast_sub (by omega)];simp
  rw [this];simp
 rw [e,Nat.and_two_pow_sub_one_eq_mod,Int.natCast_emod,Int.toNat_of_nonneg h0];simp
theorem Db {a b:Int} (j:Nat) (c:Int) (h0:0≤a) (h1:a<2^j) (hc:0≤c) (hb:b=2^j*c):((a.toNat ||| b.toNat:Nat):Int)=a+b:=by
 have Nb:a.toNat<2^j:=by
  have:(a.toNat:Int)<((2^j:Nat):Int):=by rw [Int.toNat_of_nonneg h0];simpa using h1
  exact_mod_cast this
 have e:b.toNat=2^j*c.toNat:=by
  have:b=((2^j*c.toNat:Nat):Int):=by rw [hb];simp [Int.toNat_of_nonneg hc]
  rw [this,zE]
 have hb0:0≤b:=by rw [hb];exact Int.mul_nonneg (by have:0<(2:Nat)^j:=Nat.pow_pos (by omega);exact_mod_cast Nat.le_of_lt this) hc
 rw [Nat.or_comm,e,←Nat.two_pow_add_eq_or_of_lt Nb,←e,Int.natCast_add,Int.toNat_of_nonneg h0,Int.toNat_of_nonneg hb0];omega
theorem vr (j:Nat):(0:Int)<2^j:=by
 have:0<(2:Nat)^j:=Nat.pow_pos (by omega)
 exact_mod_cast this
theorem z9 {a b:Int} (ha:0≤a∧a<18446744073709551616) (hb:0≤b∧b<18446744073709551616):bits .and .u64 a b=((a.toNat &&& b.toNat:Nat):Int):=by
 show IntKind.u64.wrap ((BitVec.ofInt 64 a &&& BitVec.ofInt 64 b).toNat:Int)=_
 rw [BitVec.toNat_and,l7 ha.1 (by omega),l7 hb.1 (by omega)]
 have:a.toNat &&& b.toNat≤a.toNat:=Nat.and_le_left
 rw [wrap_u64];omega
theorem Cd {a b:Int} (ha:0≤a∧a<18446744073709551616) (hb:0≤b∧b<18446744073709551616):bits .or .u64 a b=((a.toNat ||| b.toNat:Nat):Int):=by
 show IntKind.u64.wrap ((BitVec.ofInt 64 a ||| BitVec.ofInt 64 b).toNat:Int)=_
 rw [BitVec.toNat_or,l7 ha.1 (by omega),l7 hb.1 (by omega)]
 have:a.toNat ||| b.toNat<2^64:=Nat.or_lt_two_pow (by omega) (by omega)
 rw [wrap_u64];omega
theorem FB {a m:Int} (j:Nat) (ha:0≤a∧a<18446744073709551616) (hm:m=2^j-1) (hb:m<18446744073709551616):bits .and .u64 a m=a%2^j:=by
 have hp:=vr j
 rw [z9 ha ⟨by omega,hb⟩,I8 j ha.1 hm]
theorem lY {a m:Int} (j:Nat) (hj:j<63) (hm:m=2^j-1):bits .and .i64 a m=a%2^j:=by rw [hm,bits_mask a j hj]
theorem IU {a b:Int} (j:Nat) (c:Int) (h0:0≤a) (h1:a<2^j) (hc:0≤c) (hb:b=2^j*c) (hs:a+b<18446744073709551616):bits .or .u64 a b=a+b:=by
 have hb0:0≤b:=by rw [hb];exact Int.mul_nonneg (Int.le_of_lt (vr j)) hc
 rw [Cd ⟨h0,by omega⟩ ⟨hb0,by omega⟩,Db j c h0 h1 hc hb]
theorem EC {a b:Int} (ha:0≤a∧a<9223372036854775808) (hb:0≤b∧b<9223372036854775808):eg (bits .or .i64 a b) 8=0↔a%8=0∧b%8=0:=by
 rw [Ce ha hb,aS (by omega)]
 obtain ⟨x,rfl⟩:=Int.eq_ofNat_of_zero_le ha.1
 obtain ⟨y,rfl⟩:=Int.eq_ofNat_of_zero_le hb.1
 have h:(x ||| y)%8=(x%8) ||| (y%8):=by
  have:=Nat.or_mod_two_pow (a:=x) (b:=y) (n:=3)
  simpa using this
 have h2:(x ||| y)%8=0↔x%8=0∧y%8=0:=by rw [h];exact Nat.or_eq_zero_iff
 simp only [zE]
 omega
theorem H2 : ∀ k : Fin 64, 3 ≤ k.val → (7#64)[k.val]'k.isLt = false := by decide
theorem NP {a:Int} (ha:0≤a∧a<9223372036854775808):bits .andNot .i64 a 7=a-a%8:=by
 obtain ⟨x,rfl⟩:=Int.eq_ofNat_of_zero_le ha.1
 have h1:(BitVec.ofInt 64 (x:Int) &&& ~~~ BitVec.ofInt 64 7).toNat=x-x%8:=by
  have hx:x<2^64:=by omega
  have e:BitVec.ofInt 64 (x:Int) &&& ~~~ BitVec.ofInt 64 7=(BitVec.ofNat 64 x >>> 3) <<< 3:=by
   rw [BitVec.ofInt_natCast]
   ext i hi
   simp only [BitVec.getElem_and,BitVec.getElem_not,BitVec.getElem_shiftLeft]
   by_cases h3:i<3
   ·have:i=0∨i=1∨i=2:=by omega
    rcases this with rfl | rfl | rfl<;>simp<;>decide
   ·have h7:(BitVec.ofInt 64 7)[i]=false:=by
     have:BitVec.ofInt 64 7=7#64:=rfl
     rw [this]
     exact H2 ⟨i,hi⟩ (by simpa using h3)
    rw [h7]
    simp [h3]
    congr 1
    omega
  rw [e]
  simp only [BitVec.toNat_shiftLeft,BitVec.toNat_ushiftRight,BitVec.toNat_ofNat,Nat.mod_eq_of_lt hx,Nat.shiftRight_eq_div_pow,Nat.shiftLeft_eq]
  omega
 show IntKind.i64.wrap ((BitVec.ofInt 64 (x:Int) &&& ~~~ BitVec.ofInt 64 7).toNat:Int)=_
 rw [h1,wrap_i64];omega
theorem Jx {a b:Int} (n:Nat) (hb:b=n) (hn:n≤64) (h:0≤a*2^n∧a*2^n<18446744073709551616):GJ .u64 a b=a*2^n:=by
 subst hb
 unfold GJ
 rw [zE,Nat.min_eq_left (by simpa [IntKind.bits] using hn),wrap_u64]
 exact Int.emod_eq_of_lt h.1 h.2
theorem Jw {a b:Int} (n:Nat) (hb:b=n) (hn:n≤64):uA .u64 a b=a / 2^n:=by
 subst hb
 unfold uA
 rw [zE,Nat.min_eq_left (by simpa [IntKind.bits] using hn),Int.fdiv_eq_ediv_of_nonneg _ (Int.le_of_lt (vr n))]
end Go.Bm
namespace Go.jG
open Go.Bm
abbrev ni:=Int×Int×Int×Int
abbrev Xt:=Int×Int
abbrev cW:=Int×Bool
abbrev iw:=Int×Int×Int
abbrev jl:=Int×Int×Int
abbrev rA:=Int×Int×Int×Int
abbrev qm:=Int×Int×Int×Int×Int×Int×Int
abbrev LF:=Int×Int×List Int
def within (a lo hi:Int):Bool:=decide (lo≤a) && decide (a≤hi)
theorem bG {a lo hi:Int}:within a lo hi=true↔lo≤a∧a≤hi:=by simp [within]
theorem kh {a lo hi:Int}:within a lo hi=false↔¬(lo≤a∧a≤hi):=by rw [←bG];simp
def dz (p:rA):Bool:=within p.1 1 8 && (within p.2.1 1 4 && (within p.2.2.1 0 2048 && (within p.2.2.2 0 8192 && (decide (p.2.2.1%8=0) && decide (p.2.2.2%8=0)))))
theorem cL {p:rA}:dz p=true↔(1≤p.1∧p.1≤8)∧(1≤p.2.1∧p.2.1≤4)∧(0≤p.2.2.1∧p.2.2.1≤2048)∧(0≤p.2.2.2∧p.2.2.2≤8192)∧p.2.2.1%8=0∧p.2.2.2%8=0:=by
 simp [dz,bG]
def rC (n:Int):Int:=n+7-(n+7)%8
def bc (c:ni):Bool:=within c.2.2.2 0 16777215 && (if c.1=0∨c.1=1 then decide (c.2.1=0) && decide (c.2.2.1 = -1) else if c.1=2 then within c.2.1 1 7 && within c.2.2.1 (-1) 7 else if c.1=3 then decide (c.2.1=0) && within c.2.2.1 (-1) 7 else false)
def B3:ni:=(0,0,0,0)
def b_ (c:ni) (fr:Int):ni×Int:=
 if bc c=false∨within fr 0 7=false then (B3,1)
 else if c.1=0 then (B3,11)
 else if c.1=3 then (B3,10)
 else if c.1=1 then ((2,c.2.1+1,fr,c.2.2.2),0)
 else if c.2.2.1≠fr then (B3,15)
 else if c.2.1=7 then (B3,16)
 else ((c.1,c.2.1+1,c.2.2.1,c.2.2.2),0)
def iP (c:ni) (s:Int):Int:=if bc c=false then 1 else if c.1≠s then 11 else 0
def bC (c:ni):ni×Int:=if iP c 2≠0 then (B3,iP c 2) else if c.2.1=1 then ((3,0,c.2.2.1,c.2.2.2),0) else ((c.1,c.2.1-1,c.2.2.1,c.2.2.2),0)
def cO (e:Int):Int:=(e+1)%16777216
def dZ (c:ni):ni×Int:=if iP c 3≠0 then (B3,iP c 3) else ((1,0,-1,cO c.2.2.2),0)
def dE (l:List cW):Int:=match l.getLast? with
 | some e=>e.1
 | none=>0
def kb:List cW→Int→Option Nat
 | [],_=>none
 | e::l,s=>if e=(s,true) then some 0 else (kb l s).map (· + 1)
def reach (l:List cW) (s:Int):Bool:=decide (s=0) || (kb l s).isSome
def parent (l:List cW) (s:Int):Int:=match kb l s with
 | some i=>dE (l.take i)
 | none=>-1
def nf (l:List cW) (s:Int):Nat→Int→Bool
 | 0,_=>false
 | n+1,b=>if b=s then true else nf l s n (parent l b)
def pO (l:List cW) (s b:Int):Bool:=decide (s=0) || nf l s 9 b
def bn (bg bytes:Int):Int×Int:=if within bg 0 6=false∨within bytes 0 512=false then (0,1) else (2+bg+(bytes+7) / 8,0)
def fj (r:jl):Bool:=within r.1 0 7 && (within r.2.1 0 16777215 && (within r.2.2 8 65528 && decide (r.2.2%8=0)))
def m5 (r:jl):Int:=r.2.2 / 8+r.1*16777216+r.2.1*4294967296
def jf (r:jl):Int×Int:=if fj r=true then (m5 r,0) else (0,1)
def gi (h:Int):jl:=(h / 16777216%256,h / 4294967296,h%16777216*8)
def ay (h:Int):jl×Int:=if fj (gi h)=true then (gi h,0) else ((0,0,0),18)
theorem cS {r:jl}:fj r=true↔(0≤r.1∧r.1≤7)∧(0≤r.2.1∧r.2.1≤16777215)∧(8≤r.2.2∧r.2.2≤65528)∧r.2.2%8=0:=by
 simp [fj,bG]
theorem xW {h:Int} (h0:0≤h):(gi h).1≤7→m5 (gi h)=h:=by
 unfold m5 gi
 simp only
 omega
theorem Du {r:jl} (hr:fj r=true):0<m5 r∧m5 r<72057594037927936:=by
 rw [cS] at hr
 unfold m5
 omega
end Go.jG
namespace Go.Bm
section
open Go.RowKit
section
variable {P:Program} {E:Env} {o:Oper} {ρ:Operand→A} {h:H} {β:Type} {K:A→H→Fp→Option β} {r:β}
def Dl:A→Bool
 | .agg _=>true
 | _=>false
theorem V.oF {g:G} {p:A} {v:Value} {cs:List A} (hv:V g p v) (ha:Dl p=false) (hc:p.cells=some cs):v.oneCell'=true:=by
 cases hv with
 | v x=>
  unfold A.cells at hc
  cases hx:v.oneCell' with
  | true=>rfl
  | false=>simp only [hx,cond_false] at hc;cases hc
 | agg=>cases ha
 | mA=>cases hc
 | un=>cases hc
 | dI=>cases hc
 | op r o v h0 h1=>exact V.Gs (.op r o v h0 h1)
 | os r z o v h0 h1=>exact V.Gs (.os r z o v h0 h1)
 | om r o v h0 h1=>exact V.Gs (.om r o v h0 h1)
 | tl t f l v hd=>exact hd.one
 | _=>rfl
def nw (a:Bool) (t:Ty) (p:A):Option t.T:=bif a then (match p with
 | .agg cs=>sV t cs
 | _=>none) else bif Dl p then none else (match p.cells with
 | some cs=>bif Nat.beq t.size 1 then sV t cs else none
 | none=>none)
theorem mj {a:Bool} {t:Ty} {p:A} {x:t.T} (hx:nw a t p=some x) {g:G} {v:Value} (hv:V g p v):V g (da a t x) v:=by
 unfold nw at hx
 unfold da
 cases a with
 | true=>
  simp only [cond_true] at hx ⊢
  split at hx
  ·rename_i cs
   obtain ⟨us,rfl⟩:=hv.Ci rfl
   exact Vs.agg ((lH (g:=g) t cs x hx).2 _ (hv.cells rfl))
  ·cases hx
 | false=>
  simp only [cond_false] at hx ⊢
  cases ha:Dl p with
  | true=>rw [ha] at hx;cases hx
  | false=>
   rw [ha] at hx;simp only [cond_false] at hx
   split at hx
   ·rename_i cs hc
    obtain ⟨h1,hx⟩:=ab hx
    have h1:=beq_eq h1
    have MO:=(lH (g:=g) t cs x hx).2 _ (hv.cells hc)
    rw [xM (hv.oF ha hc)] at MO
    have hl:(aJ t x).length=1:=by rw [cQ];exact h1
    match he:aJ t x,hl with
    | [c],_=>
     rw [he] at MO
     exact (MO.2 0 c v rfl rfl).1
   ·cases hx
theorem gJ.conv {S S':Hp} {ρ':Operand→A} {pv:A} (hc:∀x∈o.op.operands,∀g v,V g (ρ x) v→V g (ρ' x) v) (k:gJ P o ρ' S S' pv):gJ P o ρ S S' pv:=
 fun g w a next Q hI hv K=>k g w a next Q hI (fun x hx=>hc x hx g _ (hv x hx)) K
def told (ρ:Operand→A) (y:Operand) (p:A):Operand→A:=fun z=>open Classical in if z=y then p else ρ z
theorem iQ {ρ:Operand→A} {y:Operand} {p:A}:told ρ y p y=p:=if_pos rfl
theorem rF {ρ:Operand→A} {y z:Operand} {p:A} (h:z≠y):told ρ y p z=ρ z:=if_neg h
theorem td {ρ:Operand→A} {y:Operand} {p:A} (h:∀g v,V g (ρ y) v→V g p v):∀(x:Operand) (g:G) (v:Value),V g (ρ x) v→V g (told ρ y p x) v:=fun x g v hv=>by
 by_cases hx:x=y
 ·subst hx;rw [iQ];exact h g v hv
 ·rw [rF hx];exact hv
def Yz (h:H) (r j:Nat) (k:(ka:Bool)→(tk:Ty)→(va:Bool)→(tv:Ty)→List (tk.T×tv.T)→Option β):Option β:=match cj h.rg r with
 | some ⟨_,.map ka tk va tv,c⟩=>bif Nat.blt r 64 then k ka tk va tv (nth (α:=List (tk.T×tv.T)) [] c j) else none
 | _=>none
def aF (ka:Bool) (tk:Ty) (va:Bool) (tv:Ty) (es:List (tk.T×tv.T)):List (A×A):=es.map fun e=>(da ka tk e.1,da va tv e.2)
theorem F6 {ka va:Bool} {tk tv:Ty} {c:List (List (tk.T×tv.T))} {j:Nat} (h:j<c.length):fp (.map ka tk va tv) c j=some (.d_ (.map (aF ka tk va tv (nth [] c j)))):=by
 show (match nz (α:=List (tk.T×tv.T)) c j with | some es=>some (Ob.d_ (.map (aF ka tk va tv es))) | none=>none)=_
 have e:nz c j=some (nth [] c j):=by simp [nz,nth,zA,zD h]
 rw [e]
theorem Dc {q j:Nat} {k:(ka:Bool)→(tk:Ty)→(va:Bool)→(tv:Ty)→List (tk.T×tv.T)→Option β} (hr:Yz h q j k=some r):∃(ka:Bool) (tk:Ty) (va:Bool) (tv:Ty) (es:List (tk.T×tv.T)),k ka tk va tv es=some r∧q<64∧(∃x:Rg,cj h.rg q=some x∧∃c:List (List (tk.T×tv.T)),x=⟨x.r,.map ka tk va tv,c⟩∧es=nth [] c j) ∧
  ∀g S (w:World) b s,Inv g S w→S.ob (gV q j)=(hp h).ob (gV q j)→(S.fr (gV q j)↔(hp h).fr (gV q j))→g.cn (gV q j)=some (some b,s)→S.ob (gV q j)=some (.d_ (.map (aF ka tk va tv es))):=by
 unfold Yz at hr
 split at hr
 ·rename_i rr ka tk va tv c hf
  obtain ⟨h1,h2⟩:=ab hr
  have h3:q<64:=bU h1
  refine ⟨ka,tk,va,tv,_,h2,h3,⟨_,hf,c,rfl,rfl⟩,fun g S w b s hI e e2 hg=>?_⟩
  have dP:j<List.length (α:=List (tk.T×tv.T)) c:=by
   rcases Nat.lt_or_ge j (List.length (α:=List (tk.T×tv.T)) c) with dP | Am
   ·exact dP
   ·have:S.fr (gV q j):=e2.2 (by rw [iT.2,iL h3 hf];exact Am)
    have:=hI.fresh _ this
    rw [this] at hg;cases hg
  rw [e,iT.1,nt h3 hf]
  exact F6 dP
 ·cases hr
def GF (ok:Bool) (z:A) (res:Option (Nat×A)) (h:H) (T:Fp) (K:A→H→Fp→Option β):Option β:=bif ok then K (.mA [FJ z res,.v (.bool res.isSome)]) h T else HX (FJ z res) (fun v=>K v h T)
theorem EM {ok:Bool} {z:A} {res:Option (Nat×A)} {T:List Nat} (hd:∀c,o.op≠.defer c) (hr:GF ok z res h (.rd T) K=some r) (k:∀S2,bK (.rd T) (hp h) S2→gJ P o ρ S2 S2 (bif ok then .mA [FJ z res,.v (.bool res.isSome)] else FJ z res)):Out P o ρ h K r:=by
 unfold GF at hr
 cases ok with
 | true=>exact .read T hr k hd
 | false=>exact .sp hr (.read _ k hd)
def Rn (E:Env) (T:Nat) (ok:Bool) (px py:A) (h:H) (K:A→H→Fp→Option β):Option β:=match dx E.fm T with
 | some ⟨.map KT VT,_,_,_,_,_,_⟩=>match dx E.fm KT,dx E.fm VT with
  | some e,some e2=>match HI e2.zero with
   | some z=>match px with
    | .mp (.loc q)=>match h.t.get q with
     | some (.d_ (.map es))=>match lB E KT e.d py py with
      | some _=>bif oI E e.d && Nat.blt q 16777216 then x6 (lB E KT e.d py) es 0 (fun res=>GF ok z res h (.rd [fT q]) K) else none
      | none=>none
     | _=>none
    | .mp (.cT q j)=>Yz h q j (fun ka tk va tv es=>bif Jm E KT e ka tk && oI E e.d then (match nw ka tk py with
     | some x=>opt (oO (ng tk x) es 0) (GF ok z none h (.rd [kA q]) K) (fun p=>GF ok z (some (p.1,da va tv p.2)) h (.rd [kA q]) K)
     | none=>none) else none)
    | _=>none
   | none=>none
  | _,_=>none
 | _=>none
theorem ME (hE:di P E) {T:Nat} {x y:Operand} {ok:Bool} (ho:o.op = .lookup T x y ok) (hr:Rn E T ok (ρ x) (ρ y) h K=some r):Out P o ρ h K r:=by
 have hd:∀c,o.op≠.defer c:=by rw [ho];intro c e;cases e
 unfold Rn at hr
 split at hr
 ·rename_i KT VT _ _ _ _ _ _ ht
  have hT:=(hE.fm _ _ ht).u
  split at hr
  ·rename_i e e2 he TL
   obtain ⟨i,t1,t2,t3,t4,t5,t6⟩:=(hE.fm _ _ TL).ti
   split at hr
   ·rename_i z hz
    have hzz:=HH hz t6
    split at hr
    ·rename_i q hx
     split at hr
     ·rename_i es hg
      split at hr
      ·rename_i b hs
       obtain ⟨h1,hr⟩:=ab hr
       simp only [zC] at h1
       have hq:=bU h1.2
       obtain ⟨res,k1,k2⟩:=sI _ _ _ hr
       have fQ:(hp h).ob q=some (.d_ (.map es)):=by rw [mm hq];unfold ir;rw [hg];rfl
       exact EM hd k1 (fun S2 hA=>vw hE ho hT he TL h1.1 hs hx ((hA q (aM hq (.head _))).1.trans fQ) k2 hzz)
      ·cases hr
     ·cases hr
    ·rename_i q j hx
     obtain ⟨ka,tk,va,tv,es,hr,hq,_,fQ⟩:=Dc hr
     obtain ⟨h1,hr⟩:=ab hr
     simp only [zC] at h1
     split at hr
     ·rename_i kx vU
      have jI:x≠y:=fun e=>by
       rw [←e,hx] at vU
       unfold nw at vU
       cases ka with
       | true=>cases vU
       | false=>
        simp only [cond_false,Dl,A.cells] at vU
        obtain ⟨_,vU⟩:=ab vU
        have hs:=h1.1
        unfold Jm at hs
        split at hs
        ·simp only [Bool.not_false,Bool.true_and] at hs
         split at hs
         ·simp [sV] at vU
         ·cases hs
        ·simp at hs
        ·cases hs
      have main:∀res,oO (ng tk kx) es 0=res→GF ok z (res.map fun p=>(p.1,da va tv p.2)) h (.rd [kA q]) K=some r→Out P o ρ h K r:=fun res hm hr=>by
       refine EM hd hr (fun S2 hA=>gJ.cn fun g w a hI hv=>?_)
       have Ak:=hv x (by simp [ho,Op.operands])
       rw [hx] at Ak
       have ha:=hA (gV q j) (df (r:=q) (j:=j) hq (.head _))
       have Cy:∃b s,g.cn (gV q j)=some (some b,s):=by
        generalize a.eval x=vx at Ak
        cases Ak with
        | mp _ b s cR=>exact ⟨b,s,cR⟩
       obtain ⟨b,s,cR⟩:=Cy
       have fN:=fQ g S2 w b s hI ha.1 ha.2 cR
       refine gJ.conv (ρ':=told ρ y (da ka tk kx)) (fun x _ g v hv=>td (fun g v hv=>mj vU hv) x g v hv) ?_
       have hf:=mP (va:=va) (tv:=tv) he h1.1 kx es 0
       rw [hm] at hf
       exact vw (X:=.cT q j) (es:=aF ka tk va tv es) hE ho hT he TL h1.2 (b:=ng tk kx kx) (by rw [iQ];exact y3 he h1.1 kx kx) (by rw [rF jI,hx]) fN (by rw [iQ];exact hf) hzz
      rcases kF hr with ⟨e,hr⟩ | ⟨p,e,hr⟩
      ·exact main none e hr
      ·exact main (some p) e hr
     ·cases hr
    ·cases hr
   ·cases hr
  ·cases hr
 ·cases hr
def YA (h:H) (K:A→H→Fp→Option β):Option β:=sa (.d_ (.map [])) h (fun q h'=>K (.mp (.loc q)) h' (.wr [fT q]))
theorem MC {T:Nat} (ho:o.op = .makeMap T none) (hr:YA h K=some r):Out P o ρ h K r:=by
 have hd:∀c,o.op≠.defer c:=by rw [ho];intro c e;cases e
 obtain ⟨h',k1,hq,hf,hh⟩:=jS hr
 exact ⟨_,_,_,k1,.of _ hh rfl (fun u hu=>by rcases zF.1 hu with rfl;exact aM (o:=h.bF) hq (.head _)) (fun S2 hA=>Bf ho ((hA _ (aM hq (.head _))).2.2 hf)) hd⟩
def Gd (h:H) (q j:Nat) (ka:Bool) (tk:Ty) (va:Bool) (tv:Ty) (es:List (tk.T×tv.T)) (k:H→Option β):Option β:=bif Bv h (kA q) then none else match cj h.rg q with
 | some ⟨_,.map ka' tk' va' tv',c⟩=>if ka=ka'∧va=va' then (match iz (.cB (.pair tk tv)) (.cB (.pair tk' tv')) es with
  | some sY=>k { h with rg:=lJ h.rg q (.map ka' tk' va' tv') (aT (α:=List (tk'.T×tv'.T)) c j sY) }
  | none=>none) else none
 | _=>none
theorem vk {ka va:Bool} {tk tv:Ty} {c:List (List (tk.T×tv.T))} {j:Nat} {es:List (tk.T×tv.T)} (hj:j<c.length) (i:Nat):fp (.map ka tk va tv) (aT c j es) i=if i=j then some (.d_ (.map (aF ka tk va tv es))) else fp (.map ka tk va tv) c i:=by
 show (match nz (α:=List (tk.T×tv.T)) (aT c j es) i with | some es=>some (Ob.d_ (.map (aF ka tk va tv es))) | none=>none)=if i=j then some (.d_ (.map (aF ka tk va tv es))) else (match nz (α:=List (tk.T×tv.T)) c i with | some es=>some (Ob.d_ (.map (aF ka tk va tv es))) | none=>none)
 rw [sC]
 by_cases h:i=j
 ·rw [if_pos ⟨h,hj⟩,if_pos h]
 ·rw [if_neg (fun k=>h k.1),if_neg h]
theorem yK {q j:Nat} {ka:Bool} {tk:Ty} {va:Bool} {tv:Ty} {es:List (tk.T×tv.T)} {k:H→Option β} (h3:q<64) (hr:Gd h q j ka tk va tv es k=some r):∃h',k h'=some r∧Cl h h' (.cT q j) (.d_ (.map (aF ka tk va tv es))):=by
 obtain ⟨_,hr⟩:=lE hr
 split at hr
 ·rename_i rr ka' tk' va' tv' c hf
  split at hr
  ·rename_i e
   obtain ⟨rfl,rfl⟩:=e
   split at hr
   rotate_left
   ·cases hr
   rename_i sY oJ
   obtain ⟨e,oJ⟩:=du oJ
   cases e
   obtain rfl:es=sY:=oJ
   refine ⟨_,hr,fun i hi=>?_,fun mF=>?_⟩
   ·have hn:=u7 h3 hi
    have:=oe (h:=h) (k:=.map ka tk va tv) (c:=aT (α:=List (tk.T×tv.T)) c j es) hf i
    rw [if_neg hn,if_neg hn] at this
    exact this
   ·have dP:j<List.length (α:=List (tk.T×tv.T)) c:=by
     rcases Nat.lt_or_ge j (List.length (α:=List (tk.T×tv.T)) c) with dP | Am
     ·exact dP
     ·exact absurd (by rw [show (Ref.cT q j).id=gV q j from rfl,iT.2,iL h3 hf];exact Am) mF
    exact vR (j:=j) (u:=.set (gV q j) _) h3 hf (uM (α:=List (tk.T×tv.T)) c j _) (fun i hi=>by rw [vk (c:=c) dP,if_neg hi]) rfl (by rw [vk (c:=c) dP,if_pos rfl];exact CO) rfl
  ·cases hr
 ·cases hr
def EJ (E:Env) (T:Nat) (ins ne:Bool) (px py pz:A) (h:H) (K:A→H→Fp→Option β):Option β:=match dx E.fm T with
 | some ⟨.map KT _,_,_,_,_,_,_⟩=>match dx E.fm KT with
  | some e=>match px with
   | .mp (.loc q)=>match h.t.get q with
    | some (.d_ (.map es))=>match lB E KT e.d py py with
     | some _=>bif oI E e.d && Nat.blt q 16777216 && !(Bv h (fT q)) then x6 (lB E KT e.d py) es 0 (fun res=>match res with
      | none=>g_ h.t q (some (.d_ (.map (es++[(py,pz)])))) (fun t1=>K .dI { h with t:=t1 } (.wr [fT q]))
      | some _=>none) else none
     | none=>none
    | _=>none
   | .mp (.cT q j)=>Yz h q j (fun ka tk va tv es=>bif Jm E KT e ka tk && oI E e.d && ne then (match nw ka tk py,nw va tv pz with
    | some x,some y=>opt (oO (ng tk x) es 0) (Gd h q j ka tk va tv (cat es [(x,y)]) (fun h'=>K .dI h' (.wr [kA q])))
     (fun p=>bif ins then none else Gd h q j ka tk va tv (I9 es p.1 y) (fun h'=>K .dI h' (.wr [kA q])))
    | _,_=>none) else none)
   | _=>none
  | none=>none
 | _=>none
theorem Bq {κ α:Type} {p:κ→Bool}:∀(l:List (κ×α)) (i n:Nat) (v:α),oO p l i=some (n,v)→∃m k,n=i+m∧l[m]?=some (k,v)∧p k=true
 | [],_,_,_,h=>by cases h
 | (k,v)::l,i,n,v',h=>by
  unfold oO at h
  cases hk:p k with
  | true=>rw [hk] at h;cases h;exact ⟨0,k,rfl,rfl,hk⟩
  | false=>
   rw [hk] at h
   obtain ⟨m,k',h1,h2,h3⟩:=Bq l (i+1) n v' h
   exact ⟨m+1,k',by omega,h2,h3⟩
theorem V.Mz {g:G} {X:Ref} {v:Value} (hv:V g (.mp X) v):∃b s,g.cn X.id=some (some b,s):=by
 cases hv with
 | mp _ b s cR=>exact ⟨b,s,cR⟩
theorem Ba {E:Env} {K:Nat} {e:dK} {ka:Bool} {tk:Ty} {X:Ref} {kx:tk.T} (hs:Jm E K e ka tk=true) (vU:nw ka tk (.mp X)=some kx):False:=by
 unfold nw at vU
 cases ka with
 | true=>cases vU
 | false=>
  simp only [cond_false,Dl,A.cells] at vU
  obtain ⟨_,vU⟩:=ab vU
  unfold Jm at hs
  split at hs
  ·simp only [Bool.not_false,Bool.true_and] at hs
   split at hs
   ·simp [sV] at vU
   ·cases hs
  ·simp at hs
  ·cases hs
theorem Bn (hE:di P E) {T:Nat} {x y z:Operand} {ins ne:Bool} (hzy:ne=true→z≠y) (ho:(ins=false∧o.op = .mapUpdate T x y z)∨(ins=true∧o.op = .insert T x y z)) (hr:EJ E T ins ne (ρ x) (ρ y) (ρ z) h K=some r):Out P o ρ h K r:=by
 have hd:∀c,o.op≠.defer c:=by rcases ho with ⟨_,ho⟩ | ⟨_,ho⟩<;>(rw [ho];intro c e;cases e)
 have JM:o.op = .mapUpdate T x y z∨o.op = .insert T x y z:=by rcases ho with ⟨_,ho⟩ | ⟨_,ho⟩<;>simp [ho]
 have kR:x∈o.op.operands:=by rcases JM with ho | ho<;>simp [ho,Op.operands]
 unfold EJ at hr
 split at hr
 ·rename_i KT VT _ _ _ _ _ _ ht
  have hT:=(hE.fm _ _ ht).u
  split at hr
  ·rename_i e he
   split at hr
   ·rename_i q hx
    split at hr
    ·rename_i es hg
     split at hr
     ·rename_i b hs
      obtain ⟨h1,hr⟩:=ab hr
      simp only [zC] at h1
      have hq:=bU h1.1.2
      obtain ⟨res,k1,k2⟩:=sI _ _ _ hr
      have fQ:(hp h).ob q=some (.d_ (.map es)):=by rw [mm hq];unfold ir;rw [hg];rfl
      split at k1
      ·obtain ⟨_,t1,k3,k4⟩:=cp k1
       exact ⟨_,_,_,k3,.of [.set q (.d_ (.map (es++[(ρ y,ρ z)])))] (tH (x:=.d_ (.map (es++[(ρ y,ρ z)]))) hq k4) rfl (fun u hu=>by rcases zF.1 hu with rfl;exact aM (o:=q) hq (.head _))
        (fun S2 hA=>EF hE JM hT he h1.1.1 hs hx ((hA q (aM hq (.head _))).1.trans fQ) (fun g v hv=>hv) (fun g v hv=>hv) k2) hd⟩
      ·cases k1
     ·cases hr
    ·cases hr
   ·rename_i q j hx
    obtain ⟨ka,tk,va,tv,es,hr,hq,_,fQ⟩:=Dc hr
    obtain ⟨h1,hr⟩:=ab hr
    simp only [zC] at h1
    split at hr
    ·rename_i kx vy vU hvy
     have jI:x≠y:=fun e=>by rw [←e,hx] at vU;exact Ba h1.1.1 vU
     have hX:Gt (.cT q j)=true:=by show Nat.blt q 64=true;simpa using hq
     have Gf:∀(g:G) (S:Hp) (w:World) (a:Act),Inv g S w→(∀x∈o.op.operands,V g (ρ x) (a.eval x))→g.cn (Ref.cT q j).id≠none:=fun g S w a hI hv=>by
      have Ak:=hv x kR
      rw [hx] at Ak
      obtain ⟨b,s,cR⟩:=Ak.Mz
      rw [cR];intro h;cases h
     have here:∀S2,bK (.wr (kX (.cT q j)::[])) (hp h) S2→∀{S':Hp} {pv:A},(S2.ob (gV q j)=some (.d_ (.map (aF ka tk va tv es)))→gJ P o ρ S2 S' pv)→gJ P o ρ S2 S' pv:=fun S2 hA _ _ k=>gJ.cn fun g w a hI hv=>by
      have Ak:=hv x kR
      rw [hx] at Ak
      obtain ⟨b,s,cR⟩:=Ak.Mz
      have ha:=hA (gV q j) (df (r:=q) (j:=j) hq (.head _))
      exact k (fQ g S2 w b s hI ha.1 ha.2 cR)
     have hxt:told ρ y (da ka tk kx) x = .mp (.cT q j):=by rw [rF jI,hx]
     have TB:∀g v,V g (told ρ y (da ka tk kx) z) v→V g (da va tv vy) v:=fun g v hv=>by
      rw [rF (hzy h1.2)] at hv;exact mj hvy hv
     have conv:=fun {S S':Hp} {pv:A}=>gJ.conv (P:=P) (o:=o) (ρ:=ρ) (ρ':=told ρ y (da ka tk kx)) (S:=S) (S':=S') (pv:=pv) (fun x _ g v hv=>td (fun g v hv=>mj vU hv) x g v hv)
     have hs:lB E KT e.d (told ρ y (da ka tk kx) y) (told ρ y (da ka tk kx) y)=some (ng tk kx kx):=by rw [iQ];exact y3 he h1.1.1 kx kx
     have hf:=mP (va:=va) (tv:=tv) he h1.1.1 kx es 0
     rcases kF hr with ⟨e1,hr⟩ | ⟨p,e1,hr⟩
     ·obtain ⟨h',k1,k2⟩:=yK hq hr
      refine ⟨_,_,_,k1,.put hd hX k2 Gf (fun S2 hA=>here S2 hA fun fN=>?_)⟩
      have e2:aF ka tk va tv (cat es [(kx,vy)])=aF ka tk va tv es++[(da ka tk kx,da va tv vy)]:=by simp [aF,cat]
      rw [e2]
      rw [e1] at hf
      exact conv (EF (X:=.cT q j) hE JM hT he h1.1.2 hs hxt fN (fun g v hv=>by rw [iQ] at hv;exact hv) TB (by rw [iQ];exact hf))
     ·cases hi:ins with
      | true=>rw [hi] at hr;cases hr
      | false=>
       rw [hi] at hr;simp only [cond_false] at hr
       obtain ⟨h',k1,k2⟩:=yK hq hr
       refine ⟨_,_,_,k1,.put hd hX k2 Gf (fun S2 hA=>here S2 hA fun fN=>?_)⟩
       have e2:aF ka tk va tv (I9 es p.1 vy)=GA (aF ka tk va tv es) p.1 (da va tv vy):=by
        unfold aF I9 GA
        apply List.ext_getElem?
        intro m
        simp only [zL,List.getElem?_modify]
        cases es[m]? with
        | none=>rfl
        | some u=>
         by_cases hm:p.1=m
         ·simp [hm]
         ·simp [hm]
       rw [e2]
       rw [e1] at hf
       obtain ⟨m,kk,m1,m2,m3⟩:=Bq es 0 p.1 p.2 e1
       have hmu:o.op = .mapUpdate T x y z:=by
        rcases ho with ⟨_,ho⟩ | ⟨hh,_⟩
        ·exact ho
        ·rw [hi] at hh;cases hh
       refine conv (IV (X:=.cT q j) (n:=p.1) hE hmu hT he h1.1.2 hs hxt fN TB (by rw [iQ];exact hf) (fun g v u v' hu hv Ct=>?_))
       rw [iQ] at hv
       have xV:(aF ka tk va tv es)[p.1]?=some (da ka tk kk,da va tv p.2):=by
        rw [m1,Nat.zero_add]
        unfold aF
        rw [zL,m2];rfl
       rw [xV] at hu
       cases hu
       exact Jl h1.1.1 m3 hv Ct
    ·cases hr
   ·cases hr
  ·cases hr
 ·cases hr
end
end
section
open Go.RowKit
section
variable {P:Program} {E:Env} {o:Oper} {ρ:Operand→A} {h:H} {β:Type} {K:A→H→Fp→Option β} {r:β}
def Jd (E:Env) (T:Nat) (px py:A) (h:H) (K:A→H→Fp→Option β):Option β:=match dx E.fm T with
 | some ⟨.map KT _,_,_,_,_,_,_⟩=>match dx E.fm KT with
  | some e=>match px with
   | .mp (.loc q)=>match h.t.get q with
    | some (.d_ (.map es))=>match lB E KT e.d py py with
     | some _=>bif oI E e.d && Nat.blt q 16777216 && !(Bv h (fT q)) then x6 (lB E KT e.d py) es 0 (fun res=>g_ h.t q (some (.d_ (.map (Kl es res)))) (fun t1=>K .dI { h with t:=t1 } (.wr [fT q]))) else none
     | none=>none
    | _=>none
   | .mp (.cT q j)=>Yz h q j (fun ka tk va tv es=>bif Jm E KT e ka tk && oI E e.d then (match nw ka tk py with
    | some x=>opt (oO (ng tk x) es 0) (Gd h q j ka tk va tv es (fun h'=>K .dI h' (.wr [kA q])))
     (fun p=>Gd h q j ka tk va tv (Je es p.1) (fun h'=>K .dI h' (.wr [kA q])))
    | none=>none) else none)
   | _=>none
  | none=>none
 | _=>none
theorem Ko {ka:Bool} {tk:Ty} {va:Bool} {tv:Ty} (es:List (tk.T×tv.T)) (p:Option (Nat×tv.T)) :
  aF ka tk va tv (match p with | some p=>Je es p.1 | none=>es)=Kl (aF ka tk va tv es) (p.map fun p=>(p.1,da va tv p.2)):=by
 cases p with
 | none=>rfl
 | some p=>
  show (es.eraseIdx p.1).map _=(es.map _).eraseIdx p.1
  generalize p.1=n
  induction es generalizing n with
  | nil=>rfl
  | cons a es ih=>cases n with
   | zero=>rfl
   | succ n=>simp only [List.map_cons,List.eraseIdx_cons_succ,List.map_cons,ih n]
theorem Jc (hE:di P E) {T:Nat} {x y:Operand} {Ts:Array TypeId} (ho:o.op = .call { callee:=.builtin .delete,args:=#[x,y],argTypes:=Ts }) (h0:Ts[0]?=some T) (hr:Jd E T (ρ x) (ρ y) h K=some r):Out P o ρ h K r:=by
 have hd:∀c,o.op≠.defer c:=by rw [ho];intro c e;cases e
 have kR:x∈o.op.operands:=by simp [ho,Op.operands,Call.operands]
 unfold Jd at hr
 split at hr
 ·rename_i KT VT _ _ _ _ _ _ ht
  have hT:=(hE.fm _ _ ht).u
  split at hr
  ·rename_i e he
   split at hr
   ·rename_i q hx
    split at hr
    ·rename_i es hg
     split at hr
     ·rename_i b hs
      obtain ⟨h1,hr⟩:=ab hr
      simp only [zC] at h1
      have hq:=bU h1.1.2
      obtain ⟨res,k1,k2⟩:=sI _ _ _ hr
      have fQ:(hp h).ob q=some (.d_ (.map es)):=by rw [mm hq];unfold ir;rw [hg];rfl
      obtain ⟨_,t1,k3,k4⟩:=cp k1
      exact ⟨_,_,_,k3,.of [.set q (.d_ (.map (Kl es res)))] (tH (x:=.d_ (.map (Kl es res))) hq k4) rfl (fun u hu=>by rcases zF.1 hu with rfl;exact aM (o:=q) hq (.head _))
       (fun S2 hA=>vA hE ho h0 hT he h1.1.1 hs hx ((hA q (aM hq (.head _))).1.trans fQ) k2) hd⟩
     ·cases hr
    ·cases hr
   ·rename_i q j hx
    obtain ⟨ka,tk,va,tv,es,hr,hq,_,fQ⟩:=Dc hr
    obtain ⟨h1,hr⟩:=ab hr
    simp only [zC] at h1
    split at hr
    ·rename_i kx vU
     have jI:x≠y:=fun e=>by rw [←e,hx] at vU;exact Ba h1.1 vU
     have hX:Gt (.cT q j)=true:=by show Nat.blt q 64=true;simpa using hq
     have Gf:∀(g:G) (S:Hp) (w:World) (a:Act),Inv g S w→(∀x∈o.op.operands,V g (ρ x) (a.eval x))→g.cn (Ref.cT q j).id≠none:=fun g S w a hI hv=>by
      have Ak:=hv x kR
      rw [hx] at Ak
      obtain ⟨b,s,cR⟩:=Ak.Mz
      rw [cR];intro h;cases h
     have here:∀S2,bK (.wr (kX (.cT q j)::[])) (hp h) S2→∀{S':Hp} {pv:A},(S2.ob (gV q j)=some (.d_ (.map (aF ka tk va tv es)))→gJ P o ρ S2 S' pv)→gJ P o ρ S2 S' pv:=fun S2 hA _ _ k=>gJ.cn fun g w a hI hv=>by
      have Ak:=hv x kR
      rw [hx] at Ak
      obtain ⟨b,s,cR⟩:=Ak.Mz
      have ha:=hA (gV q j) (df (r:=q) (j:=j) hq (.head _))
      exact k (fQ g S2 w b s hI ha.1 ha.2 cR)
     have hxt:told ρ y (da ka tk kx) x = .mp (.cT q j):=by rw [rF jI,hx]
     have conv:=fun {S S':Hp} {pv:A}=>gJ.conv (P:=P) (o:=o) (ρ:=ρ) (ρ':=told ρ y (da ka tk kx)) (S:=S) (S':=S') (pv:=pv) (fun x _ g v hv=>td (fun g v hv=>mj vU hv) x g v hv)
     have hs:lB E KT e.d (told ρ y (da ka tk kx) y) (told ρ y (da ka tk kx) y)=some (ng tk kx kx):=by rw [iQ];exact y3 he h1.1 kx kx
     have hf:=mP (va:=va) (tv:=tv) he h1.1 kx es 0
     have main:∀p,oO (ng tk kx) es 0=p→Gd h q j ka tk va tv (match p with | some p=>Je es p.1 | none=>es) (fun h'=>K .dI h' (.wr [kA q]))=some r→Out P o ρ h K r:=fun p GM hr=>by
      obtain ⟨h',k1,k2⟩:=yK hq hr
      refine ⟨_,_,_,k1,.put hd hX k2 Gf (fun S2 hA=>here S2 hA fun fN=>?_)⟩
      rw [GM] at hf
      rw [Ko]
      exact conv (vA (X:=.cT q j) hE ho h0 hT he h1.2 hs hxt fN (by rw [iQ];exact hf))
     rcases kF hr with ⟨e1,hr⟩ | ⟨p,e1,hr⟩
     ·exact main none e1 hr
     ·exact main (some p) e1 hr
    ·cases hr
   ·cases hr
  ·cases hr
 ·cases hr
def Dr:List (Nat×Nat)→Nat→Option Nat
 | [],_=>none
 | (t,r)::l,T=>bif Nat.beq t T then some r else Dr l T
def IE (h:H) (q:Nat) (t:Ty) (x:t.T) (k:Nat→H→Option β):Option β:=bif Bv h (kA q) then none else match cj h.rg q with
 | some ⟨_,.box t',c⟩=>match iz t t' x with
  | some x'=>bif Nat.blt q 64 then k (len (α:=t'.T) c) { h with rg:=lJ h.rg q (.box t') (cat (α:=t'.T) c [x']) } else none
  | none=>none
 | _=>none
theorem A9 {q:Nat} {t:Ty} {x:t.T} {k:Nat→H→Option β} (hr:IE h q t x k=some r):∃h' j,k j h'=some r∧q<64∧(hp h).fr (gV q j)∧hp h'=app [.new (gV q j) (.cells (aJ t x))] (hp h):=by
 obtain ⟨_,hr⟩:=lE hr
 split at hr
 ·rename_i rr t' c hf
  split at hr
  ·rename_i x' hx
   obtain ⟨e,hx⟩:=du hx
   subst e
   obtain rfl:x=x':=hx
   obtain ⟨h1,hr⟩:=ab hr
   have h3:q<64:=bU h1
   refine ⟨_,_,hr,h3,?_,?_⟩
   ·rw [iT.2,iL h3 hf];exact Nat.le_refl _
   ·exact sv (k:=.box t) (c:=cat (α:=t.T) c [x]) (n:=List.length (α:=t.T) c) h3 hf rfl (sn (α:=t.T) c _) (fun j=>vm (c:=c) (x:=x) j)
  ·cases hr
 ·cases hr
theorem V.Mb {g:G} {q j:Nat} {v:Value} (hv:V g (.ptr (gV q j) 0) v):V g (.tp (.cT q j) []) v:=by
 cases hv with
 | ptr _ _ b s hb=>exact .tp (.cT q j) [] b s hb trivial
def SL (E:Env) (hm:List (Nat×Nat)) (T:Nat) (h:H) (K:A→H→Fp→Option β):Option β:=match Dr hm T with
 | some q=>match dx E.fm T with
  | some e=>match e.t with
   | some t=>IE h q t t.dO (fun j h'=>K (.tp (.cT q j) []) h' (.wr [kA q]))
   | none=>none
  | none=>none
 | none=>SM E T h K
theorem NQ (hE:di P E) {hm:List (Nat×Nat)} {T:Nat} (ho:o.op = .alloc T) (hr:SL E hm T h K=some r):Out P o ρ h K r:=by
 have hd:∀c,o.op≠.defer c:=by rw [ho];intro c e;cases e
 unfold SL at hr
 split at hr
 ·rename_i q _
  split at hr
  ·rename_i e ht
   have hk:=hE.fm _ _ ht
   obtain ⟨i,t1,t2,t3,t4,t5,t6⟩:=hk.ti
   split at hr
   ·rename_i t Cu
    obtain ⟨h',j,k1,hq,hf,hh⟩:=A9 hr
    exact ⟨_,_,_,k1,Step.ta (.of _ hh rfl (fun u hu=>by rcases zF.1 hu with rfl;exact df (r:=q) (j:=j) hq (.head _)) (fun S2 hA=>qN ho t1 t2 (hk.tz t Cu) ((hA _ (df (r:=q) (j:=j) hq (.head _))).2.2 hf)) hd) (fun g v hv=>hv.Mb)⟩
   ·cases hr
  ·cases hr
 ·exact NR hE ho hr
def SF (E:Env) (hm:List (Nat×Nat)) (T:Nat) (px:A) (h:H) (K:A→H→Fp→Option β):Option β:=match Dr hm T with
 | some q=>match dx E.fm T,px.cells with
  | some e,some ps=>match e.t with
   | some t=>match fixC 64 t ps h with
    | some (yM,h1,T1)=>match sV t yM with
     | some x=>IE h1 q t x (fun j h'=>K (.tp (.cT q j) []) h' (.wr (kA q::T1)))
     | none=>none
    | none=>none
   | none=>none
  | _,_=>none
 | none=>KM E T px h K
theorem Step.adK {T1:List Nat} {h1 h2:H} {us:List Up} {x:Ob} {pv:A} {q j:Nat} (c1:hp h1=app us (hp h)) (c2:∀u∈us,aR (.wr T1) u.id=true) (hq:q<64) (hf:(hp h1).fr (gV q j)) (hh:hp h2=app [.new (gV q j) x] (hp h1)) (hd:∀c,o.op≠.defer c)
  (k:∀S2 g w a,bK (.wr T1) (hp h) S2→(app us S2).fr (gV q j)→Inv g S2 w→(∀x∈o.op.operands,V g (ρ x) (a.eval x))→xq P o S2 ((app us S2).new (gV q j) x) pv g w a):Step P o ρ h h2 (.wr (kA q::T1)) pv:=
 .of (us++[.new (gV q j) x]) (by rw [kM,←c1,hh]) rfl (fun u hu=>by
  rcases zX.1 hu with hu | hu
  ·exact gK (fun i hi=>.tail _ hi) (c2 u hu)
  ·rcases zF.1 hu with rfl;exact df (r:=q) (j:=j) hq (.head _)) (fun S2 hA g w a next Q hI hv K'=>by
  have mF:(app us S2).fr (gV q j):=by
   have:=bK.app us hA
   rw [←c1] at this
   exact (this (gV q j) (df hq (.head _))).2.2 hf
  have e:=kM us [.new (gV q j) x] S2
  rw [e] at K'
  exact k S2 g w a (hA.mono fun i hi=>.tail _ hi) mF hI hv next Q K') hd
theorem NI {S:Hp} {T:TypeId} {x:Operand} {qs:List A} {q:Nat} {g:G} {w:World} {a:Act} (ho:o.op = .box T x) (hI:Inv g S w) (e2:Vs g qs (a.eval x).cells.toList) (hf:S.fr q):xq P o S (S.new q (.cells qs)) (.ptr q 0) g w a:=by
 intro next Q K
 obtain ⟨h1,h2⟩:=hI.pN hf (cs:=qs) (vs:=(a.eval x).cells) T (by have:=e2.1;simp at this ⊢;omega) e2.all
 unfold Oper.wp
 simp only [execOp,ho,Instr.box,Sem.run_bind,Result.andThen_ok,Sem.run_pure,newVar,newRow,run_newObj]
 exact K _ _ _ (.ptr _ _ w.heap.size _ dG) h1 h2
theorem NG {hm:List (Nat×Nat)} {T:Nat} {x:Operand} (ho:o.op = .box T x) (hr:SF E hm T (ρ x) h K=some r):Out P o ρ h K r:=by
 have hd:∀c,o.op≠.defer c:=by rw [ho];intro c e;cases e
 unfold SF at hr
 split at hr
 ·rename_i q _
  split at hr
  ·rename_i e ps ht xf
   split at hr
   ·rename_i t Cu
    split at hr
    ·rename_i yM h1 T1 hf
     split at hr
     ·rename_i y hy
      obtain ⟨us,c1,c2,c3⟩:=sG _ _ _ _ _ _ _ hf
      obtain ⟨h',j,k1,hq,mF,hh⟩:=A9 hr
      refine ⟨_,_,_,k1,Step.ta (pv:=.ptr (gV q j) 0) (.adK c1 c2 hq mF hh hd (fun S2 g w a hA hf hI hv=>?_)) (fun g v hv=>?_)⟩
      ·obtain ⟨g1,q1,q2,q3⟩:=c3 g S2 w _ hI hA ((hv x (by simp [ho,Op.operands])).cells xf)
       refine xq.pre ?_ q2
       exact NI ho q1 ((lH t yM y hy).2 _ q3) hf
      ·cases hv with
       | ptr _ _ b s h0=>exact .tp (.cT q j) [] b s h0 trivial
     ·cases hr
    ·cases hr
   ·cases hr
  ·cases hr
 ·exact KL ho hr
end
end
section
variable {P:Program} {E:Env} {o:Oper} {ρ:Operand→A} {h:H} {β:Type} {K:A→H→Fp→Option β} {r:β}
def fvK (E:Env) (T f:Nat) (px:A) (h:H) (K:A→H→Fp→Option β):Option β:=match px with
 | .agg cs=>match dx E.fm T with
  | some ⟨.struct fs,_,_,_,_,_,_⟩=>match fs[f]? with
   | some fd=>match dx E.fm fd.type with
    | some e=>bif lZ e.d then K (.agg ((cs.drop fd.offset).take e.size)) h .no else (match (cs.drop fd.offset).take e.size with
     | [p]=>HX p (fun v=>K v h .no)
     | _=>none)
    | none=>none
   | none=>none
  | _=>none
 | _=>none
theorem V.abp {g:G} {cs:List A} {u:Value} (h:V g (.agg cs) u):∃vs,u = .agg vs∧Vs g cs vs.toList:=by
 cases h with
 | agg _ vs hl h1 hh=>
  refine ⟨vs,rfl,by simpa using hl,fun j c x a b=>?_⟩
  have b':vs[j]?=some x:=by simpa using b
  exact ⟨hh j c x a b',h1 x (zG b)⟩
theorem RW (hE:di P E) {T f:Nat} {x:Operand} (ho:o.op = .field T x f) (hr:fvK E T f (ρ x) h K=some r):Out P o ρ h K r:=by
 have hd:∀c,o.op≠.defer c:=by rw [ho];intro c e;cases e
 unfold fvK at hr
 split at hr
 ·rename_i cs hx
  split at hr
  ·rename_i fs _ _ _ _ t _ ht
   split at hr
   ·rename_i fd hf
    split at hr
    ·rename_i e he
     have key:∀{S2:Hp} {v:A},(∀g xs,Vs g ((cs.drop fd.offset).take e.size) xs→∃u,valOf e.d xs u∧V g v u)→gJ P o ρ S2 S2 v:=fun {S2 v} hk=>.value fun g w a _ hv=>by
      have e1:=hv x (by simp [ho,Op.operands])
      rw [hx] at e1
      obtain ⟨vs,e2,e3⟩:=e1.abp
      obtain ⟨u,h1,h2⟩:=hk g _ (e3.part fd.offset e.size)
      refine ⟨u,?_,h2⟩
      simp only [execOp,ho,e2,Sem.run_bind,Instr.field,run_underlying (hE.fm _ _ ht).u,Result.andThen_ok,hf,asAgg,Sem.run_pure,rN (hE.fm _ _ he) h1 w]
     cases ha:lZ e.d with
     | true=>
      rw [ha] at hr
      refine .pure hr (fun S2=>key fun g xs Dn=>⟨.agg xs.toArray,by simp [valOf,ha],?_⟩) hd
      exact .agg _ _ (by simpa using Dn.1) (fun v hm=>by
       obtain ⟨j,hj⟩:=List.getElem?_of_mem hm
       simp only [List.toList_toArray] at hj
       have dP:j<((cs.drop fd.offset).take e.size).length:=by
        have:=(zB.1 hj).1;have:=Dn.1;omega
       exact (Dn.2 j _ v (zD dP) hj).2) (fun i c y h1 h2=>(Dn.2 i c y h1 (by simpa using h2)).1)
     | false=>
      rw [ha] at hr
      simp only [cond_false] at hr
      split at hr
      ·rename_i p hp
       refine .sp hr (.pure (fun S2=>key fun g xs Dn=>?_) hd)
       rw [hp] at Dn
       obtain ⟨z,e1,e2⟩:=Dn.single
       exact ⟨z,by simp [valOf,ha,e1],e2⟩
      ·cases hr
    ·cases hr
   ·cases hr
  ·cases hr
 ·cases hr
def isNil (py:A):Bool:=match py with
 | .v (.slice none 0 0)=>true
 | _=>false
theorem Jz {py:A} (h:isNil py=true):py = .v (.slice none 0 0):=by
 unfold isNil at h
 split at h
 ·rfl
 ·cases h
def Km (E:Env) (op:BinOp) (T:Nat) (X:Ref) (z:Nat) (h:H) (K:A→H→Fp→Option β):Option β:=bif isEq op then (match dx E.fm T with
  | some e=>match e.d with
   | .slice _=>kY h X (fun t l=>bif Nat.beq z t.size && Nat.blt 0 z then gd (bl 0 (len l)) (K (.v (.bool (Gz op false))) h (.rd [kX X])) else none)
   | _=>none
  | none=>none) else none
def Si (E:Env) (op:BinOp) (T:Nat) (px py:A) (h:H) (K:A→H→Fp→Option β):Option β:=match px with
 | .tw X z=>bif isNil py then Km E op T X z h K else KO E op T px py h K
 | .os r z o=>bif isNil py then opt o none (fun j=>Km E op T (.cT r j) z h K) else KO E op T px py h K
 | _=>KO E op T px py h K
theorem Ml {S:Hp} {op:BinOp} {T T' E:TypeId} {x y:Operand} (ho:o.op = .binOp op T x y T') (hT:P.underlying T=some (.slice E)) (sX:op = .eql∨op = .neq)
  (hy:ρ y = .v (.slice none 0 0)) (hx:∀g w v,Inv g S w→V g (ρ x) v→∃a n c,v = .slice (some a) n c):gJ P o ρ S S (.v (.bool (if op = .eql then false else !false))):=
 .value fun g w a hI hv=>by
  have e2:=hv y (by simp [ho,Op.operands])
  rw [hy] at e2
  have e2:=e2.jq
  obtain ⟨A,n,c,h1⟩:=hx g w _ hI (hv x (by simp [ho,Op.operands]))
  have iO:=Eo (P:=P) w hT (some A) n c
  refine ⟨.bool (if op = .eql then false else !false),?_,.v _⟩
  have mn:(eqGuard op T x y (.slice (some A) n c) (.slice none 0 0)).run P w = .ok () w:=by
   rcases sX with rfl | rfl<;>rfl
  rcases sX with rfl | rfl
  ·have hb:(binOp .eql T (.slice (some A) n c) (.slice none 0 0)).run P w = .ok (.bool false) w:=by
    simp only [binOp];simp [Op.equal,Op.maxDepth,iO]
   simp only [execOp,ho,h1,e2,Sem.run_bind,mn,Result.andThen_ok,if_true,hb,Sem.run_pure]
  ·have hb:(binOp .neq T (.slice (some A) n c) (.slice none 0 0)).run P w = .ok (.bool (!false)) w:=by
    simp only [binOp];simp [Op.equal,Op.maxDepth,iO]
   simp only [execOp,ho,h1,e2,Sem.run_bind,mn,Result.andThen_ok,hb,Sem.run_pure]
   rfl
theorem Fg (hE:di P E) {op:BinOp} {T T':TypeId} {x y:Operand} {X:Ref} {z:Nat} (ho:o.op = .binOp op T x y T') (hn:isNil (ρ y)=true) (hx:∀g v,V g (ρ x) v→V g (.tw X z) v) (hr:Km E op T X z h K=some r):Out P o ρ h K r:=by
 have hd:∀c,o.op≠.defer c:=by rw [ho];intro c e;cases e
 have hy:=Jz hn
 unfold Km at hr
 obtain ⟨hq,hr⟩:=ab hr
 split at hr
 ·rename_i e ht
  split at hr
  ·rename_i el Hw
   obtain ⟨t,l,hr,hX,fQ⟩:=gq hr
   obtain ⟨hz,hr⟩:=ab hr
   simp only [zC] at hz
   have YK:=beq_eq hz.1
   have h0:=bU hz.2
   obtain ⟨hl,hr⟩:=cE hr
   have hl:0<l.length:=hl
   refine .read _ hr (fun S2 hA=>?_) hd
   have fN:=(hA _ (cF hX (.head _))).1.trans fQ
   rw [se _ hq]
   refine Ml ho (by rw [(hE.fm _ _ ht).u,Hw]) (oa hq) hy (fun g w v hI hv=>?_)
   have hv:=hx _ _ hv
   rw [YK] at hv
   rcases hv.tX hI (by omega) fN with ⟨ad,_,rfl,rfl⟩ | ⟨b,s,cap,d,_,rfl,_⟩
   ·cases hl
   ·exact ⟨_,_,_,rfl⟩
  ·cases hr
 ·cases hr
theorem Nt (hE:di P E) {op:BinOp} {T T':TypeId} {x y:Operand} (ho:o.op = .binOp op T x y T') (hr:Si E op T (ρ x) (ρ y) h K=some r):Out P o ρ h K r:=by
 unfold Si at hr
 split at hr
 ·rename_i X z hx
  cases hn:isNil (ρ y) with
  | true=>
   rw [hn] at hr
   exact Fg hE ho hn (fun g v hv=>by rwa [hx] at hv) hr
  | false=>
   rw [hn] at hr
   exact z_ hE ho hr
 ·rename_i ri z oo hx
  cases hn:isNil (ρ y) with
  | true=>
   rw [hn] at hr
   rcases kF (show opt oo none (fun j=>Km E op T (.cT ri j) z h K)=some r from hr) with ⟨_,h2⟩ | ⟨j,h1,h2⟩
   ·cases h2
   ·exact Fg hE ho hn (fun g v hv=>by
     rw [hx] at hv
     cases hv with
     | os _ _ _ _ _ k1=>exact k1 j h1) h2
  | false=>
   rw [hn] at hr
   exact z_ hE ho hr
 ·exact z_ hE ho hr
end
section
open Go.RowKit
section
variable {P:Program} {E:Env} {o:Oper} {ρ:Operand→A} {h:H} {β:Type} {K:A→H→Fp→Option β} {r:β}
structure FH (P:Program) (f:FuncId) (aa:List A) (h h':H) (T:Fp) (pv:A):Prop where
 out:∀i,aR T i=false→(hp h').ob i=(hp h).ob i∧((hp h').fr i↔(hp h).fr i)
 rd:∀i,wt T i=false→(hp h').ob i=(hp h).ob i∧((hp h').fr i↔(hp h).fr i)
 fn:D_ P f
 ok:∀S2,bK T (hp h) S2→PC P f aa S2 (l6 T (hp h') S2) pv
def RC (P:Program) (y:A) (aa:List A) (S S':Hp) (r:A):Prop:=
 ∀g w u (vs:List Value),Inv g S w→V g y u→aa.length=vs.length→(∀(i:Nat) (p:A) (v:Value),aa[i]?=some p→vs[i]?=some v→V g p v) →
  ∃(b:Nat) (rr:Loop),u = .func (.yield b) #[] #[]∧w.heap[b]?=some (.loop rr)∧rr.params.size=vs.length ∧
   RoundIn (FR none) 0 P b rr.fn ((rr.params.zip vs.toArray).foldl (fun tmps (t,a)=>tmps.setIfInBounds t a) rr.tmps) rr.assign rr.body w (fun e w'=>∃v g',e = .returned v∧V g' r v∧Inv g' S' w'∧Ext S g w S' g' w')
structure QC (P:Program) (y:A) (aa:List A) (h h':H) (T:Fp) (pv:A):Prop where
 out:∀i,aR T i=false→(hp h').ob i=(hp h).ob i∧((hp h').fr i↔(hp h).fr i)
 rd:∀i,wt T i=false→(hp h').ob i=(hp h).ob i∧((hp h').fr i↔(hp h).fr i)
 ok:∀S2,bK T (hp h) S2→RC P y aa S2 (l6 T (hp h') S2) pv
theorem Gr {y:A} {x:Operand} {xs:Array Operand} {ts:Array TypeId} {S S':Hp} {r:A} (ho:o.op = .call { callee:=.value x,args:=xs,argTypes:=ts }) (hx:ρ x=y) (h:RC P y (xs.toList.map ρ) S S' r):Hl P o ρ S S' r:=by
 intro ro g w a next Q hI hv K
 have e1:=hx▸hv x (by simp [ho,Op.operands,Call.operands])
 obtain ⟨b,rr,hu,h1,h2,h3⟩:=h g w (a.eval x) (xs.toList.map a.eval) hI e1 (by simp) (fun i p v k1 k2=>by
  simp only [zL,Option.map_eq_some_iff,Array.getElem?_toList] at k1 k2
  obtain ⟨y,hy,rfl⟩:=k1
  obtain ⟨y',qW,rfl⟩:=k2
  rw [hy] at qW
  obtain rfl:=Option.some.inj qW
  exact hv y (by simp only [ho,Op.operands,Call.operands];exact Array.mem_append.2 (.inr (Array.mem_of_getElem? hy))))
 refine ⟨fun f _=>trivial,?_⟩
 rw [Oper.semAt_eq _ _ _ (by rw [ho];intro c h;cases h)]
 have ea : #[]++Array.map a.eval xs=(xs.toList.map a.eval).toArray:=by apply Array.ext';simp
 have e:(execOp a.eval o).run P w = .ok (.round b rr.fn ((rr.params.zip (xs.toList.map a.eval).toArray).foldl (fun tmps (t,a)=>tmps.setIfInBounds t a) rr.tmps) rr.assign rr.body) w:=by
  simp only [execOp,ho,resolve,hu,Deferred.ofValue,pure_bind,invoke]
  rw [ea]
  exact run_yield h1 (by simp [h2])
 rw [e]
 refine ⟨fun h=>by simp [FR,Fence.wide] at h,RoundIn.mono (F:=FR ro) h3 ?_⟩
 rintro e w' ⟨v,g',rfl,k1,k2,k3⟩
 exact K v g' w' k1 k2 k3
structure Cx where
 call:(β:Type)→FuncId→List A→H→(A→H→Fp→Option β)→Option β
 hm:List (Nat×Nat)
 wL:(β:Type)→A→List A→H→(A→H→Fp→Option β)→Option β
structure nM (P:Program) (cx:Cx):Prop where
 call:∀(β:Type) (f:FuncId) (aa:List A) (h:H) (K:A→H→Fp→Option β) (r:β),cx.call β f aa h K=some r→∃pv h' T,K pv h' T=some r∧FH P f aa h h' T pv
 wL:∀(β:Type) (y:A) (aa:List A) (h:H) (K:A→H→Fp→Option β) (r:β),cx.wL β y aa h K=some r→∃pv h' T,K pv h' T=some r∧QC P y aa h h' T pv
def KJ (cx:Cx) (px:A) (aa:List A) (h:H) (K:A→H→Fp→Option β):Option β:=match px with
 | .fn f fi ca=>cx.call β f (fi++aa++ca) h K
 | .wL _ _ _ _ _ _ _=>cx.wL β px aa h K
 | _=>none
theorem KI {cx:Cx} (hx:nM P cx) {x:Operand} {xs:Array Operand} {ts:Array TypeId} (ho:o.op = .call { callee:=.value x,args:=xs,argTypes:=ts }) (hr:KJ cx (ρ x) (xs.toList.map ρ) h K=some r):Out P o ρ h K r:=by
 have hd:∀c,o.op≠.defer c:=by rw [ho];intro c e;cases e
 unfold KJ at hr
 split at hr
 ·rename_i f fi ca GM
  obtain ⟨pv,h',T,k1,k2⟩:=hx.call β f _ h K r hr
  exact ⟨pv,h',T,k1,⟨k2.out,k2.rd,fun S2 hA=>(Gp ho k2.fn GM (k2.ok S2 hA)).Rh hd⟩⟩
 ·rename_i GM
  obtain ⟨pv,h',T,k1,k2⟩:=hx.wL β _ _ h K r hr
  exact ⟨pv,h',T,k1,⟨k2.out,k2.rd,fun S2 hA=>Gr ho GM (GM▸k2.ok S2 hA)⟩⟩
 ·cases hr
def Em:Operand→Operand→Bool
 | .tmp i,.tmp j=>Nat.beq i j
 | _,_=>false
theorem AH {x y:Operand} (h:Em x y=true):x=y:=by
 unfold Em at h
 split at h
 ·rw [beq_eq h]
 ·cases h
def neO:Operand→Operand→Bool
 | .tmp i,.tmp j=>!(Nat.beq i j)
 | .tmp _,.const _=>true
 | .const _,.tmp _=>true
 | _,_=>false
theorem I7 {x y:Operand} (h:neO x y=true):y≠x:=by
 rintro rfl
 cases y<;>simp [neO] at h
def AJ:Option Operand→Option Operand→Bool
 | some x,some y=>Em x y
 | _,_=>false
theorem H7 {x y:Option Operand} (h:AJ x y=true):x=y:=by
 unfold AJ at h
 split at h
 ·rw [AH h]
 ·cases h
def SH (E:Env) (b:Builtin) (xs:List Operand) (ts:List TypeId) (ρ:Operand→A) (h:H) (K:A→H→Fp→Option β):Option β:=match b,xs,ts with
 | .append,[x,y],[T,T']=>bif Nat.beq T T' then SK E T (ρ x) (ρ y) h K else none
 | .len,[x],[T]=>Ro E T (ρ x) h K
 | .min,[x,y],_=>Tu false (ρ x) (ρ y) h K
 | .max,[x,y],_=>Tu true (ρ x) (ρ y) h K
 | .copy,[x,y],[T,_]=>KG E T (ρ x) (ρ y) h K
 | .clear,[x],[T]=>SC E T (ρ x) h K
 | .delete,[x,y],T::_=>Jd E T (ρ x) (ρ y) h K
 | _,_,_=>none
theorem NJ (hE:di P E) {b:Builtin} {xs:Array Operand} {ts:Array TypeId} (ho:o.op = .call { callee:=.builtin b,args:=xs,argTypes:=ts }) (hr:SH E b xs.toList ts.toList ρ h K=some r):Out P o ρ h K r:=by
 obtain ⟨xs⟩:=xs
 obtain ⟨ts⟩:=ts
 simp only at hr
 unfold SH at hr
 split at hr
 ·obtain ⟨hT,hk⟩:=ab hr
  clear hr
  obtain rfl:=beq_eq hT
  exact NN hE ho hk
 ·exact MF hE ho hr
 ·exact MA ho hr
 ·exact MB ho hr
 ·exact KF hE ho hr
 ·exact NF hE ho hr
 ·exact Jc hE ho rfl hr
 ·cases hr
theorem Hl.ahA {P:Program} {Ys:Op} {ρ:Operand→A} {S S':Hp} {v:A} (hd:∀c,o.op≠.defer c) (qt:∀c,Ys≠.defer c) (hs:∀x∈Ys.operands,x∈o.op.operands) (he:∀(g:G) (a:Act),(∀x∈o.op.operands,V g (ρ x) (a.eval x))→execOp a.eval o=execOp a.eval { o with op:=Ys }) (h:Hl P { o with op:=Ys } ρ S S' v):Hl P o ρ S S' v:=by
 intro r g w a next Q hI hv K
 have h1:=h r g w a next Q hI (fun x hx=>hv x (hs x hx)) K
 refine ⟨fun f _=>trivial,?_⟩
 have h2:=h1.2
 rw [Oper.semAt_eq _ _ _ qt] at h2
 rw [Oper.semAt_eq _ _ _ hd,he g a hv]
 exact h2
def Rv (E:Env) (T:Nat) (X:Ref) (z:Nat) (lo hi mx:Option A) (h:H) (K:A→H→Fp→Option β):Option β:=match dx E.fm T with
 | some ⟨.slice el,_,_,_,_,_,_⟩=>match dx E.fm el with
  | some e=>kY h X (fun t x=>bif Nat.beq z e.size && Nat.beq z t.size && Nat.blt 0 z then Hh lo 0 (fun l=>Hh hi 0 (fun n=>Hh mx 0 (fun m=>gd (dv l n) (gd (dv n m) (gd (dv m (len x)) (K .dI h (.rd [kX X]))))))) else none)
  | none=>none
 | _=>none
theorem ML (hE:di P E) {T:Nat} {X:Ref} {z:Nat} {x lo hi mx:Operand} (ho:o.op = .slice T x (some lo) (some hi) (some mx)) (hx:ρ x = .tw X z) (hr:Rv E T X z (some (ρ lo)) (some (ρ hi)) (some (ρ mx)) h K=some r):Out P o ρ h K r:=by
 have hd:∀c,o.op≠.defer c:=by rw [ho];intro c e;cases e
 unfold Rv at hr
 split at hr
 ·rename_i el _ _ _ _ _ _ ht
  have hT:=(hE.fm _ _ ht).u
  split at hr
  ·rename_i e he
   have hz:=(hE.fm _ _ he).ti.size
   obtain ⟨t,x',hr,hX,fQ⟩:=gq hr
   obtain ⟨hq,hr⟩:=ab hr
   simp only [zC] at hq
   have hq1:=beq_eq hq.1.1
   have JH:=beq_eq hq.1.2
   have h0:=bU hq.2
   obtain ⟨l,hr,ze⟩:=mu (x:=some lo) hr
   obtain ⟨n,hr,zg⟩:=mu (x:=some hi) hr
   obtain ⟨m,hr,hmx⟩:=mu (x:=some mx) hr
   obtain ⟨h1,hr⟩:=cE hr
   obtain ⟨h2,hr⟩:=cE hr
   obtain ⟨h3,hr⟩:=cE hr
   have h1:l≤n:=h1
   have h2:n≤m:=h2
   have h3:m≤x'.length:=h3
   refine .read [kX X] hr (fun S2 hA=>vv ho hT hz ze zg hmx h1 h2 (fun g w v hI hv=>?_)) hd
   have fN:=(hA _ (cF hX (.head _))).1.trans fQ
   rw [hx,JH] at hv
   obtain ⟨ad,cap,k1,k2,_,_⟩:=hv.OY (lo:=l) (hi:=n) hI (by omega) fN h1 (by omega)
   exact ⟨ad,_,cap,k1,by omega,.dI _⟩
  ·cases hr
 ·cases hr
def YI:A→Bool
 | .tw _ _=>true
 | _=>false
def QS (E:Env) (T:Nat) (px:A) (lo hi mx:Option A) (same:Bool) (h:H) (K:A→H→Fp→Option β):Option β:=bif same then HZ E T px lo hi mx true h K else bif YI px && lo.isSome && mx.isSome && hi.isSome then (match px with
 | .tw X z=>Rv E T X z lo hi mx h K
 | _=>none) else (match mx,hi with
 | some (.v (.int k m)),some (.v (.int k' n))=>if k=k' then gd (P5 m n) (HZ E T px lo hi hi true h K) else none
 | mx,hi=>HZ E T px lo hi mx false h K)
theorem LQ (hE:di P E) {T:Nat} {x:Operand} {lo hi mx:Option Operand} (ho:o.op = .slice T x lo hi mx) (hr:QS E T (ρ x) (lo.map ρ) (hi.map ρ) (mx.map ρ) (AJ mx hi) h K=some r):Out P o ρ h K r:=by
 unfold QS at hr
 cases hb:AJ mx hi with
 | true=>rw [hb] at hr;exact yp hE ho (fun _=>H7 hb) hr
 | false=>
  rw [hb] at hr
  simp only [cond_false] at hr
  cases ht:(YI (ρ x) && (lo.map ρ).isSome && (mx.map ρ).isSome && (hi.map ρ).isSome) with
  | true=>
   rw [ht] at hr
   simp only [cond_true] at hr
   simp only [zC] at ht
   obtain ⟨lo',rfl⟩:=isSome_map ht.1.1.2
   obtain ⟨mx',rfl⟩:=isSome_map ht.1.2
   obtain ⟨Qe,rfl⟩:=isSome_map ht.2
   split at hr
   ·rename_i X z hx
    exact ML hE ho hx hr
   ·cases hr
  | false=>
  rw [ht] at hr
  simp only [cond_false] at hr
  split at hr
  ·rename_i k m k' n hm hn
   split at hr
   ·rename_i hk
    subst hk
    obtain ⟨he,hr1⟩:=cE hr
    clear hr
    have he:m=n:=he
    subst he
    cases hi with
    | none=>cases hn
    | some hi=>
    cases mx with
    | none=>cases hm
    | some mx=>
    have hn:ρ hi = .v (.int k m):=Option.some.inj hn
    have hm:ρ mx = .v (.int k m):=Option.some.inj hm
    obtain ⟨pv,h',T',k1,k2⟩:=yp (o:={ o with op:=.slice T x lo (some hi) (some hi) }) hE rfl (fun _=>rfl) hr1
    refine ⟨pv,h',T',k1,k2.out,k2.rd,fun S2 hA=>Hl.ahA (Ys:=.slice T x lo (some hi) (some hi)) (by rw [ho];intro c e;cases e) (fun c e=>by cases e) (fun y hy=>?_) (fun g a hv=>?_) (k2.ok S2 hA)⟩
    ·rw [ho]
     simp only [Op.operands,Array.mem_append] at hy ⊢
     rcases hy with (hy | hy) | hy
     ·exact .inl (.inl hy)
     ·exact .inl (.inr hy)
     ·exact .inl (.inr hy)
    ·have e1:=hv mx (by rw [ho];simp [Op.operands])
     have e2:=hv hi (by rw [ho];simp [Op.operands])
     rw [hm] at e1
     rw [hn] at e2
     have e3:=e1.jq.trans e2.jq.symm
     simp only [execOp,ho,Option.map_some,e3]
   ·cases hr
  ·exact yp hE ho (fun h=>by cases h) hr
def opK (E:Env) (cx:Cx) (op:Op) (ρ:Operand→A) (h:H) (K:A→H→Fp→Option β):Option β:=match op with
 | .move x=>mvK (ρ x) h K
 | .assign x=>mvK (ρ x) h K
 | .pick c x y=>IL (ρ c) (ρ x) (ρ y) h K
 | .extract x i=>Sh (ρ x) i h K
 | .binOp op T x y _=>Si E op T (ρ x) (ρ y) h K
 | .unOp op _ x=>unK op (ρ x) h K
 | .convert s d x=>cvK E s d (ρ x) h K
 | .nilCheck x=>Yx (ρ x) h K
 | .fieldAddr T x f=>R_ E T f (ρ x) h K
 | .field T x f=>fvK E T f (ρ x) h K
 | .indexAddr T x y=>ixK E T (ρ x) y (ρ y) h K
 | .load T x=>Rq E T (ρ x) h K
 | .store T x y=>stK E T (ρ x) (ρ y) h K
 | .alloc T=>SL E cx.hm T h K
 | .box T x=>SF E cx.hm T (ρ x) h K
 | .build T ps=>SJ E T ρ ps.toList h K
 | .buildSlice T n ps=>SG E T n ρ ps.toList h K
 | .makeSlice T x y=>mkK E T (Em x y) (ρ x) h K
 | .slice T x lo hi mx=>QS E T (ρ x) (lo.map ρ) (hi.map ρ) (mx.map ρ) (AJ mx hi) h K
 | .makeFunc (.func f) fi ca=>YC f (fi.toList.map ρ) (ca.toList.map ρ) h K
 | .makeMap _ none=>YA h K
 | .lookup T x y ok=>Rn E T ok (ρ x) (ρ y) h K
 | .mapUpdate T x y z=>EJ E T false (neO y z) (ρ x) (ρ y) (ρ z) h K
 | .insert T x y z=>EJ E T true (neO y z) (ρ x) (ρ y) (ρ z) h K
 | .call c=>match c.callee with
  | .value x=>KJ cx (ρ x) (c.args.toList.map ρ) h K
  | .builtin b=>SH E b c.args.toList c.argTypes.toList ρ h K
  | _=>none
 | _=>none
theorem Rj (hE:di P E) {cx:Cx} (hx:nM P cx) (hr:opK E cx o.op ρ h K=some r):Out P o ρ h K r:=by
 generalize ho:o.op=op at hr
 have nd:∀{op:Op},o.op=op→(∀c,op≠.defer c)→∀c,o.op≠.defer c:=fun e k=>by rw [e];exact k
 unfold opK at hr
 split at hr
 ·exact .pure hr (fun S2=>IW ho) (nd ho (fun c e=>by cases e))
 ·exact .pure hr (fun S2=>Da ho) (nd ho (fun c e=>by cases e))
 ·exact IK ho hr
 ·exact Nq ho hr
 ·exact Nt hE ho hr
 ·exact QK ho hr
 ·exact Sq hE ho hr
 ·exact Mx ho hr
 ·exact Nk hE ho hr
 ·exact RW hE ho hr
 ·exact Rx hE ho hr
 ·exact Rp hE ho hr
 ·exact QQ hE ho hr
 ·exact NQ hE ho hr
 ·exact NG ho hr
 ·exact NK hE ho hr
 ·exact NH hE ho hr
 ·exact Rk hE ho AH hr
 ·exact LQ hE ho hr
 ·exact MD ho hr
 ·exact MC ho hr
 ·exact ME hE ho hr
 ·exact Bn hE I7 (.inl ⟨rfl,ho⟩) hr
 ·exact Bn hE I7 (.inr ⟨rfl,ho⟩) hr
 ·rename_i c
  obtain ⟨cal,xs,ts⟩:=c
  simp only at hr
  split at hr
  ·exact KI hx ho hr
  ·exact NJ hE ho hr
  ·cases hr
 ·cases hr
end
end
section
open Go.RowKit
def Fp.cat (T U:Fp):Fp:=⟨T.all || U.all,T.rs++U.rs,T.w || U.w,T.ws++U.ws⟩
theorem kW (T U:Fp) (i:Nat):aR (T.cat U) i=(aR T i || aR U i):=by
 unfold aR Fp.cat
 simp only [List.any_append]
 cases T.all<;>cases U.all<;>cases T.rs.any (Nat.beq (res i))<;>cases U.rs.any (Nat.beq (res i))<;>rfl
theorem uY {T U:Fp} {i:Nat} (h:wt (T.cat U) i=false):wt T i=false∧wt U i=false:=by
 have h:((T.w || U.w) && (T.ws++U.ws).any (Nat.beq (res i)))=false:=h
 show (T.w && T.ws.any (Nat.beq (res i)))=false∧(U.w && U.ws.any (Nat.beq (res i)))=false
 rw [List.any_append] at h
 generalize T.ws.any (Nat.beq (res i))=a at h ⊢
 generalize U.ws.any (Nat.beq (res i))=b at h ⊢
 generalize T.w=c at h ⊢
 generalize U.w=d at h ⊢
 revert h
 cases a<;>cases b<;>cases c<;>cases d<;>decide
theorem Fp.nK (T U V:Fp):(T.cat U).cat V=T.cat (U.cat V):=by
 unfold Fp.cat
 simp [Bool.or_assoc]
theorem Fp.tu (T:Fp):Fp.no.cat T=T:=by cases T;rfl
theorem Fp.z7 (T:Fp):T.cat .no=T:=by cases T;simp [Fp.cat,Fp.no]
structure s_ (h h':H) (T:Fp):Prop where
 out:∀i,aR T i=false→(hp h').ob i=(hp h).ob i∧((hp h').fr i↔(hp h).fr i)
 rd:∀i,wt T i=false→(hp h').ob i=(hp h).ob i∧((hp h').fr i↔(hp h).fr i)
theorem s_.refl (h:H):s_ h h .no:=⟨fun _ _=>⟨rfl,Iff.rfl⟩,fun _ _=>⟨rfl,Iff.rfl⟩⟩
theorem s_.trans {h h1 h2:H} {T U:Fp} (a:s_ h h1 T) (b:s_ h1 h2 U):s_ h h2 (T.cat U) where
 out:=fun i hi=>by
  rw [kW,Bool.or_eq_false_iff] at hi
  have e1:=a.out i hi.1
  have e2:=b.out i hi.2
  exact ⟨e2.1.trans e1.1,e2.2.trans e1.2⟩
 rd:=fun i hi=>by
  obtain ⟨h1,h2⟩:=uY hi
  have e1:=a.rd i h1
  have e2:=b.rd i h2
  exact ⟨e2.1.trans e1.1,e2.2.trans e1.2⟩
theorem bK.left {T U:Fp} {S S2:Hp} (h:bK (T.cat U) S S2):bK T S S2:=fun i hi=>h i (by rw [kW,hi];rfl)
theorem bK.right {h h1:H} {T U:Fp} {S2:Hp} (f:s_ h h1 T) (k:bK (T.cat U) (hp h) S2):bK U (hp h1) (l6 T (hp h1) S2):=fun i hi=>by
 show (if aR T i=true then (hp h1).ob i else S2.ob i)=(hp h1).ob i∧((if aR T i=true then (hp h1).fr i else S2.fr i)↔(hp h1).fr i)
 cases ht:aR T i with
 | true=>exact ⟨if_pos rfl,by rw [if_pos rfl]⟩
 | false=>
  have e:=f.out i ht
  have k:=k i (by rw [kW,hi];simp)
  rw [if_neg (by simp),if_neg (by simp)]
  exact ⟨k.1.trans e.1.symm,k.2.trans e.2.symm⟩
theorem je {h1 h2:H} {T U:Fp} {S2:Hp} (f:s_ h1 h2 U):l6 U (hp h2) (l6 T (hp h1) S2)=l6 (T.cat U) (hp h2) S2:=by
 refine Hp.ext' (fun i=>?_) (fun i=>?_)
 ·show (if aR U i=true then (hp h2).ob i else (if aR T i=true then (hp h1).ob i else S2.ob i))=(if aR (T.cat U) i=true then (hp h2).ob i else S2.ob i)
  rw [kW]
  cases hu:aR U i with
  | true=>simp
  | false=>
   cases ht:aR T i with
   | true=>simp [(f.out i hu).1]
   | false=>simp
 ·show (if aR U i=true then (hp h2).fr i else (if aR T i=true then (hp h1).fr i else S2.fr i))↔(if aR (T.cat U) i=true then (hp h2).fr i else S2.fr i)
  rw [kW]
  cases hu:aR U i with
  | true=>simp
  | false=>
   cases ht:aR T i with
   | true=>simp [(f.out i hu).2]
   | false=>simp
theorem uQ {h h':H} {T:Fp} (f:s_ h h' T):l6 T (hp h') (hp h)=hp h':=Hp.ext' (fun i=>by
 show (if aR T i=true then _ else _)=_
 split
 ·rfl
 ·rename_i hi;exact (f.out i (by simpa using hi)).1.symm) (fun i=>by
 show (if aR T i=true then _ else _)↔_
 split
 ·exact Iff.rfl
 ·rename_i hi;exact (f.out i (by simpa using hi)).2.symm)
theorem yN (S S2:Hp):l6 .no S S2=S2:=Hp.ext' (fun i=>rfl) (fun i=>Iff.rfl)
def jW (n:Nat) (F:Tr A) (ds:List Nat) (S:Hp):St:=⟨cd F.get,n,ds,S⟩
def EE (n:Nat) (F:Tr A):Operand→A
 | .tmp i=>bif Nat.blt i n then cd F.get i else .dI
 | .const v=>.v v
 | .global _=>.dI
 | .func f=>.fn f [] []
theorem Dg {a b:Nat} (h:a<b):Nat.blt a b=true:=by simpa using h
theorem yT {a b:Nat} (h:¬a<b):Nat.blt a b=false:=by
 cases hx:Nat.blt a b with
 | false=>rfl
 | true=>exact absurd (bU hx) h
theorem tr (n:Nat) (F:Tr A) (ds:List Nat) (S:Hp):EE n F=(jW n F ds S).Cs 0:=by
 funext x
 cases x with
 | tmp i=>
  show (bif Nat.blt i n then cd F.get i else .dI)=(if i<n then cd F.get i else .dI)
  by_cases h:i<n
  ·rw [if_pos h,Dg h];rfl
  ·rw [if_neg h,yT h];rfl
 | _=>rfl
def fcV {β:Type} (v:Value) (k:Value→β):β:=match v with
 | .int a n=>k (.int a n)
 | .bool b=>k (.bool b)
 | v=>k v
theorem Sc {β:Type} (v:Value) (k:Value→β):fcV v k=k v:=by unfold fcV;split<;>rfl
def fcS {β:Type} (p:A) (k:A→β):β:=match p with
 | .v x=>fcV x (fun x=>k (.v x))
 | .ptr o off=>k (.ptr o off)
 | .tp x π=>k (.tp x π)
 | .tw x z=>k (.tw x z)
 | .tl t f l=>k (.tl t f l)
 | .op r o=>k (.op r o)
 | p=>k p
theorem Kj {β:Type} (p:A) (k:A→β):fcS p k=k p:=by unfold fcS;split<;>first | exact Sc _ _ | rfl
def Sd {β:Type}:List A→(List A→β)→β
 | [],k=>k []
 | c::cs,k=>fcS c (fun c=>Sd cs (fun cs=>k (c::cs)))
theorem wm {β:Type}:∀(l:List A) (k:List A→β),Sd l k=k l
 | [],_=>rfl
 | c::cs,k=>by unfold Sd;rw [Kj];exact wm cs _
def TS {β:Type} (p:A) (k:A→β):β:=match p with
 | .agg cs=>Sd cs (fun cs=>k (.agg cs))
 | .mA cs=>Sd cs (fun cs=>k (.mA cs))
 | .fn f fi ca=>Sd fi (fun fi=>Sd ca (fun ca=>k (.fn f fi ca)))
 | p=>fcS p k
theorem DW {β:Type} (p:A) (k:A→β):TS p k=k p:=by
 unfold TS
 split
 ·exact wm _ _
 ·exact wm _ _
 ·rw [wm,wm]
 ·exact Kj _ _
def yL {β:Type} (F:Tr A) (d:Option Nat) (p:A) (k:Tr A→Option β):Option β:=match d with
 | none=>k F
 | some d=>TS p (fun p=>g_ F d (some p) k)
def Kp (l:List Nat) (F F':Tr A):Prop:=∀i,i∉l→cd F'.get i=cd F.get i
theorem Kp.refl (l:List Nat) (F:Tr A):Kp l F F:=fun _ _=>rfl
theorem Kp.trans {l k m:List Nat} {F F1 F2:Tr A} (a:Kp l F F1) (b:Kp k F1 F2) (hl:∀i∈l,i∈m) (hk:∀i∈k,i∈m):Kp m F F2:=fun i hi=>(b i (fun h=>hi (hk i h))).trans (a i (fun h=>hi (hl i h)))
theorem Kp.mono {l m:List Nat} {F F1:Tr A} (a:Kp l F F1) (hl:∀i∈l,i∈m):Kp m F F1:=fun i hi=>a i (fun h=>hi (hl i h))
theorem Kp.of {l:List Nat} {n:Nat} {F F':Tr A} (h:∀ds S,jW n F' ds S=jW n F ds S):Kp l F F':=fun i _=>congrFun (congrArg St.t (h [] ⟨fun _=>none,fun _=>False⟩)) i
theorem uP {β:Type} {F:Tr A} {d:Option Nat} {p:A} {k:Tr A→Option β} {r:β} (h:yL F d p k=some r):∃F',k F'=some r∧Kp d.toList F F'∧∀(n:Nat) (ds:List Nat) (S S':Hp),((jW n F ds S).put d p).to S'=jW n F' ds S':=by
 cases d with
 | none=>exact ⟨F,h,.refl _ F,fun n ds S S'=>rfl⟩
 | some d=>
  have h:TS p (fun p=>g_ F d (some p) k)=some r:=h
  rw [DW] at h
  obtain ⟨_,F',k1,k2⟩:=cp h
  refine ⟨F',k1,fun i hi=>by
   simp only [cd,k2]
   rw [if_neg (fun e=>hi (by rw [e];exact .head _))],fun n ds S S'=>?_⟩
  have e:(fun i=>if i=d then p else cd F.get i)=cd F'.get:=by
   funext i
   simp only [cd,k2]
   by_cases hi:i=d
   ·rw [if_pos hi,if_pos hi]
   ·rw [if_neg hi,if_neg hi]
  simp only [St.put,St.to,jW,e]
def Nf {β:Type} (l0:List Oper) (n:Nat) (F:Tr A) (j:Nat) (want:Bool) (k:Tr A→Bool→Option β):Option β:=match (l0[j]?).bind (·.dst) with
 | some d=>match EE n F (.tmp d) with
  | .v (.bool b)=>br b (g_ F d (some (.v (.bool true))) (fun F'=>k F' want)) (g_ F d (some (.v (.bool false))) (fun F'=>k F' (!want)))
  | .un=>k F false
  | _=>none
 | none=>none
theorem ED {n:Nat} {F:Tr A} {d:Nat} {p:A} (h:EE n F (.tmp d)=p) (hp:p≠.dI):cd F.get d=p:=by
 have h:(bif Nat.blt d n then cd F.get d else .dI)=p:=h
 cases hb:Nat.blt d n with
 | true=>rw [hb] at h;exact h
 | false=>rw [hb] at h;exact absurd h.symm hp
theorem E5 {β:Type} {l0:List Oper} {n:Nat} {F:Tr A} {j:Nat} {want:Bool} {k:Tr A→Bool→Option β} {r:β} (h:Nf l0 n F j want k=some r):∃F' b,k F' b=some r∧(∀ds S,jW n F' ds S=jW n F ds S)∧∀ds S,pk l0.toArray (jW n F ds S) j want=some b:=by
 unfold Nf at h
 split at h
 ·rename_i d hd
  have gv:∀(b:Bool) (ds:List Nat) (S:Hp),((match EE n F (.tmp d) with | .v (.bool b)=>some (b == want) | .un=>some false | _=>none):Option Bool)=some b→pk l0.toArray (jW n F ds S) j want=some b:=fun b ds S hb=>by
   unfold pk
   rw [List.getElem?_toArray,←tr,hd]
   exact hb
  split at h
  ·rename_i b hb
   have same:∀(F':Tr A) (c:Bool),b=c→F'.get=(fun m=>if m=d then some (.v (.bool c)) else F.get m)→∀ds S,jW n F' ds S=jW n F ds S:=fun F' c hc e ds S=>by
    have:cd F'.get=cd F.get:=by
     funext i
     by_cases hi:i=d
     ·subst hi
      rw [ED hb (by intro h;cases h),hc]
      unfold cd
      rw [e];simp
     ·unfold cd
      rw [e];simp [hi]
    unfold jW
    rw [this]
   rcases tS h with ⟨rfl,h1⟩ | ⟨rfl,h1⟩
   ·obtain ⟨_,F',k1,k2⟩:=cp h1
    exact ⟨F',want,k1,same F' true rfl k2,fun ds S=>gv _ ds S (by rw [hb];cases want<;>rfl)⟩
   ·obtain ⟨_,F',k1,k2⟩:=cp h1
    exact ⟨F',!want,k1,same F' false rfl k2,fun ds S=>gv _ ds S (by rw [hb];cases want<;>rfl)⟩
  ·rename_i hb
   exact ⟨F,false,h,fun ds S=>rfl,fun ds S=>gv _ ds S (by rw [hb])⟩
  ·cases h
 ·cases h
def Mu (p:A):A:=match p with
 | .op r (some j)=>.tp (.cT r j) []
 | .op _ none=>.v (.pointer none)
 | .os r z (some j)=>.tw (.cT r j) z
 | .os _ _ none=>.e0
 | .om r (some j)=>.mp (.cT r j)
 | .om _ none=>.v (.map none)
 | p=>p
theorem Mt {p:A} {g:G} {v:Value} (h:V g p v):V g (Mu p) v:=by
 unfold Mu
 split
 ·cases h with | op _ _ _ _ h1=>exact h1 _ rfl
 ·cases h with | op _ _ _ h0 _=>rw [h0 rfl];exact .v _
 ·cases h with | os _ _ _ _ _ h1=>exact h1 _ rfl
 ·cases h with | os _ _ _ _ h0 _=>exact h0 rfl
 ·cases h with | om _ _ _ _ h1=>exact h1 _ rfl
 ·cases h with | om _ _ _ h0 _=>rw [h0 rfl];exact .v _
 ·exact h
def opn (n:Nat) (F:Tr A) (l:List Nat) (x:Operand):A:=match x with
 | .tmp i=>bif l.any (Nat.beq i) then Mu (EE n F (.tmp i)) else EE n F (.tmp i)
 | x=>EE n F x
theorem Rf {n:Nat} {F:Tr A} {l:List Nat} {x:Operand} {g:G} {v:Value} (h:V g (EE n F x) v):V g (opn n F l x) v:=by
 cases x with
 | tmp i=>
  show V g (bif l.any (Nat.beq i) then Mu (EE n F (.tmp i)) else EE n F (.tmp i)) v
  cases l.any (Nat.beq i) with
  | true=>exact Mt h
  | false=>exact h
 | _=>exact h
def u9 {β:Type}:List Nat→Tr A→(Tr A→Option β)→Option β
 | [],F,k=>k F
 | i::l,F,k=>match cd F.get i with
  | .op r v=>opt v (g_ F i (some (.op r none)) (fun F=>u9 l F k)) (fun j=>g_ F i (some (.op r (some j))) (fun F=>u9 l F k))
  | .os r z v=>opt v (g_ F i (some (.os r z none)) (fun F=>u9 l F k)) (fun j=>g_ F i (some (.os r z (some j))) (fun F=>u9 l F k))
  | .om r v=>opt v (g_ F i (some (.om r none)) (fun F=>u9 l F k)) (fun j=>g_ F i (some (.om r (some j))) (fun F=>u9 l F k))
  | _=>u9 l F k
theorem yo {β:Type} {r:β}:∀(l:List Nat) (F:Tr A) (k:Tr A→Option β),u9 l F k=some r→∃F',k F'=some r∧cd F'.get=cd F.get
 | [],F,k,h=>⟨F,h,rfl⟩
 | i::l,F,k,h=>by
  have same:∀(p:A),cd F.get i=p→g_ F i (some p) (fun F=>u9 l F k)=some r→∃F',k F'=some r∧cd F'.get=cd F.get:=fun p hp h=>by
   obtain ⟨_,F1,k1,k2⟩:=cp h
   obtain ⟨F2,k3,k4⟩:=yo l F1 k k1
   refine ⟨F2,k3,k4.trans ?_⟩
   funext m
   unfold cd at hp ⊢
   rw [k2]
   by_cases hm:m=i
   ·subst hm;simp only [if_true];exact hp.symm
   ·simp only [if_neg hm]
  unfold u9 at h
  split at h
  ·rename_i q v hq
   rcases kF h with ⟨e,h1⟩ | ⟨j,e,h1⟩
   ·exact same _ (by rw [hq,e]) h1
   ·exact same _ (by rw [hq,e]) h1
  ·rename_i q z v hq
   rcases kF h with ⟨e,h1⟩ | ⟨j,e,h1⟩
   ·exact same _ (by rw [hq,e]) h1
   ·exact same _ (by rw [hq,e]) h1
  ·rename_i q v hq
   rcases kF h with ⟨e,h1⟩ | ⟨j,e,h1⟩
   ·exact same _ (by rw [hq,e]) h1
   ·exact same _ (by rw [hq,e]) h1
  ·exact yo l F k h
def wQ (x:Operand):List Nat:=match x with
 | .tmp i=>[i]
 | _=>[]
def Xb (op:Op):List Nat:=match op with
 | .fieldAddr _ x _=>wQ x
 | .indexAddr _ x _=>wQ x
 | .load _ x=>wQ x
 | .store _ x _=>wQ x
 | .slice _ x _ _ _=>wQ x
 | .lookup _ x _ _=>wQ x
 | .mapUpdate _ x _ _=>wQ x
 | .insert _ x _ _=>wQ x
 | .nilCheck x=>wQ x
 | .call c=>match c.callee with
  | .builtin _=>c.args.toList.flatMap wQ
  | _=>[]
 | _=>[]
section
variable {P:Program} {E:Env} {cx:Cx} {n:Nat} {β:Type} {r:β}
def Ri (E:Env) (cx:Cx) (n:Nat) (op:Op) (F:Tr A) (h:H) (K:Tr A→A→H→Fp→Option β):Option β:=
 u9 (Xb op) F (fun F'=>opK E cx op (opn n F' (Xb op)) h (fun pv h' T=>K F' pv h' T))
theorem IZ (hE:di P E) (hx:nM P cx) {o:Oper} {F:Tr A} {h:H} {K:Tr A→A→H→Fp→Option β} (hr:Ri E cx n o.op F h K=some r) :
  ∃F',(∀ds S,jW n F' ds S=jW n F ds S)∧∃pv h' T,K F' pv h' T=some r∧Step P o (EE n F') h h' T pv:=by
 obtain ⟨F',h1,h2⟩:=yo _ _ _ hr
 obtain ⟨pv,h',T,k1,k2⟩:=Rj hE hx h1
 refine ⟨F',fun ds S=>by unfold jW;rw [h2],pv,h',T,k1,k2.out,k2.rd,fun S2 hA r g w a next Q hI hv=>k2.ok S2 hA r g w a next Q hI (fun x hx=>Rf (hv x hx))⟩
def xo (l:List Oper):List Nat:=l.flatMap fun o=>o.dst.toList
def CZ (E:Env) (cx:Cx) (n:Nat) (l0:List Oper):List Oper→Tr A→H→Fp→(Tr A→H→Fp→Option β)→Option β
 | [],F,h,U,K=>K F h U
 | o::l,F,h,U,K=>match o.guard with
  | none=>Ri E cx n o.op F h (fun F pv h' T=>yL F o.dst pv (fun F'=>CZ E cx n l0 l F' h' (U.cat T) K))
  | some (j,want)=>Nf l0 n F j want (fun F b=>bif b then Ri E cx n o.op F h (fun F pv h' T=>yL F o.dst pv (fun F'=>CZ E cx n l0 l F' h' (U.cat T) K)) else yL F o.dst .un (fun F'=>CZ E cx n l0 l F' h U K))
def K8 (F:Tr A) (h:H) (F':Tr A) (h':H) (n:Nat) (T:Fp) (W:(Exit→St→Prop)→St→Prop) (e:Exit) (ds nQ:List Nat):Prop:=
 ∀S2,bK T (hp h) S2→∀Q:Exit→St→Prop,Q e (jW n F' nQ (l6 T (hp h') S2))→W Q (jW n F ds S2)
theorem yz (hE:di P E) (hx:nM P cx) {l0:List Oper}:∀(l:List Oper) (F:Tr A) (h:H) (U:Fp) (K:Tr A→H→Fp→Option β),CZ E cx n l0 l F h U K=some r →
  ∃F' h' T,K F' h' (U.cat T)=some r∧Kp (xo l) F F'∧s_ h h' T∧∀ro S0 g0 w0 ds,K8 F h F' h' n T (fun Q st=>Iz P ro S0 g0 w0 l0.toArray Q l st) .normal ds ds
 | [],F,h,U,K,hr=>⟨F,h,.no,by rw [Fp.z7];exact hr,.refl _ F,.refl h,fun ro S0 g0 w0 ds S2 hA Q hq=>by
   rw [yN] at hq;exact L7 hq⟩
 | o::l,F,h,U,K,hr=>by
  have yes:∀(F:Tr A),Ri E cx n o.op F h (fun F pv h' T=>yL F o.dst pv (fun F'=>CZ E cx n l0 l F' h' (U.cat T) K))=some r →
    (∀ds S,o.guard=none∨∃j want,o.guard=some (j,want)∧pk l0.toArray (jW n F ds S) j want=some true) →
    ∃F' h' T,K F' h' (U.cat T)=some r∧Kp (xo (o::l)) F F'∧s_ h h' T∧∀ro S0 g0 w0 ds,K8 F h F' h' n T (fun Q st=>Iz P ro S0 g0 w0 l0.toArray Q (o::l) st) .normal ds ds:=fun F hr hg=>by
   obtain ⟨F0,e0,pv,h1,T1,k1,k2⟩:=IZ hE hx hr
   obtain ⟨F1,k3,Rt,k4⟩:=uP k1
   obtain ⟨F2,h2,T2,k5,kp2,k6,k7⟩:=yz hE hx l F1 h1 (U.cat T1) K k3
   have f1:s_ h h1 T1:=⟨k2.out,k2.rd⟩
   have hg:∀ds S,o.guard=none∨∃j want,o.guard=some (j,want)∧pk l0.toArray (jW n F0 ds S) j want=some true:=fun ds S=>by rw [e0];exact hg ds S
   refine ⟨F2,h2,T1.cat T2,by rw [←Fp.nK];exact k5,(Kp.of (l:=[]) e0).trans (m:=xo (o::l)) (Rt.trans kp2 (fun i hi=>zQ _ hi) (fun i hi=>zS _ hi)) (fun i hi=>by cases hi) (fun i hi=>hi),f1.trans k6,fun ro S0 g0 w0 ds S2 hA Q hq=>?_⟩
   rw [←e0]
   have sX:Hl P o ((jW n F0 ds S2).Cs 0) (jW n F0 ds S2).S (l6 T1 (hp h1) S2) pv:=by rw [←tr];exact k2.ok S2 hA.left
   have Qb:Iz P ro S0 g0 w0 l0.toArray Q l (((jW n F0 ds S2).put o.dst pv).to (l6 T1 (hp h1) S2)):=by
    rw [k4]
    refine k7 ro S0 g0 w0 ds _ (bK.right f1 hA) Q ?_
    rw [je k6];exact hq
   rcases hg ds S2 with hg | ⟨j,want,hg,hv⟩
   ·exact Iy 0 hg sX Qb
   ·exact yF 0 hg hv sX Qb
  unfold CZ at hr
  split at hr
  ·rename_i hg
   exact yes F hr (fun _ _=>.inl hg)
  ·rename_i j want hg
   obtain ⟨F1,b,k1,k2,k3⟩:=E5 hr
   cases b with
   | true=>
    simp only [cond_true] at k1
    obtain ⟨F',h',T,q1,qp,q2,q3⟩:=yes F1 k1 (fun ds S=>.inr ⟨j,want,hg,by rw [k2];exact k3 ds S⟩)
    refine ⟨F',h',T,q1,(Kp.of (l:=[]) k2).trans qp (fun i hi=>by cases hi) (fun i hi=>hi),q2,fun ro S0 g0 w0 ds S2 hA Q hq=>?_⟩
    rw [←k2]
    exact q3 ro S0 g0 w0 ds S2 hA Q hq
   | false=>
    simp only [cond_false] at k1
    obtain ⟨F2,k4,Rt,k5⟩:=uP k1
    obtain ⟨F',h',T,q1,qp,q2,q3⟩:=yz hE hx l F2 h U K k4
    refine ⟨F',h',T,q1,(Kp.of (l:=[]) k2).trans (m:=xo (o::l)) (Rt.trans qp (fun i hi=>zQ _ hi) (fun i hi=>zS _ hi)) (fun i hi=>by cases hi) (fun i hi=>hi),q2,fun ro S0 g0 w0 ds S2 hA Q hq=>?_⟩
    have:=q3 ro S0 g0 w0 ds S2 hA Q hq
    rw [←k5 n ds S2 S2] at this
    rw [←k2]
    refine A8 hg (by rw [k2];exact k3 ds S2) ?_
    rw [←yH (st:=jW n F1 ds S2)]
    exact this
end
end
section
open Go.RowKit
def kT (kp:Nat→Bool) (i:Nat):Bool:=!(Nat.blt i 16777216) && kp (oM i)
def G.ny (kp:Nat→Bool) (g:G):G:=⟨fun i=>if kT kp i=true then g.cn i else none,g.mem,g.lp⟩
theorem y5 (kp:Nat→Bool) (g:G):Le (g.ny kp) g:=⟨fun o p h=>(by
 have h:(if kT kp o=true then g.cn o else none)=some p:=h
 split at h
 ·exact h
 ·cases h),fun _ _ _ h=>h,fun _ _ h=>h⟩
theorem lS {kp:Nat→Bool} {g:G} {i:Nat} (h:kT kp i=true):(g.ny kp).cn i=g.cn i:=if_pos h
theorem Jq {kp:Nat→Bool} {g:G} {i:Nat} (h:kT kp i=false):(g.ny kp).cn i=none:=if_neg (by rw [h];simp)
def VK (kp:Nat→Bool) (c:A):Prop:=∀g v,V g c v→V (g.ny kp) c v
def TY (kp:Nat→Bool):Ob→Prop
 | .cells cs=>∀c∈cs,VK kp c
 | .d_ (.map es)=>∀e∈es,VK kp e.1∧VK kp e.2
 | .d_ _=>False
def G.join (kp:Nat→Bool) (g0 g:G):G:=⟨fun i=>if kT kp i=true then g0.cn i else g.cn i,g0.mem,g0.lp⟩
theorem GG (kp:Nat→Bool) (g0 g:G):(G.join kp g0 g).ny kp=g0.ny kp:=by
 unfold G.join G.ny
 congr 1
 funext i
 by_cases h:kT kp i=true
 ·simp only [if_pos h]
 ·simp only [if_neg h]
theorem VK.join {kp:Nat→Bool} {c:A} (h:VK kp c) {g0 g:G} {v:Value} (hv:V g0 c v):V (G.join kp g0 g) c v:=by
 have:=h g0 v hv
 rw [←GG kp g0 g] at this
 exact this.mono (y5 kp _)
def Hp.join (kp:Nat→Bool) (S0 S:Hp):Hp:=⟨fun i=>if kT kp i=true then S0.ob i else S.ob i,fun i=>if kT kp i=true then S0.fr i else S.fr i⟩
theorem pS.conv {g g':G} {w w':World} {b t:Nat} {cs:List A} (h:pS g w b t cs) (hw:w'.heap[b]?=w.heap[b]?) (hc:∀c∈cs,∀v,V g c v→V g' c v):pS g' w' b t cs:=by
 obtain ⟨cur,ty,k2,sW,k3⟩:=h
 exact ⟨cur,ty,hw.trans k2,sW,k3.1,fun j c x e1 e2=>⟨hc c (zG e1) _ (k3.2 j c x e1 e2).1,(k3.2 j c x e1 e2).2⟩⟩
theorem J7 {kp:Nat→Bool} {g:G} {S S0:Hp} {w:World} (hI:Inv g S w) (h0:∀i,kT kp i=false→S0.ob i=none) (h1:∀i,kT kp i=true→S.ob i=S0.ob i∧(S.fr i↔S0.fr i)) (hk:∀i x,S0.ob i=some x→TY kp x):Inv (g.ny kp) S0 w:=by
 have kn:∀{i x},S0.ob i=some x→kT kp i=true∧S.ob i=some x:=fun {i x} h=>by
  cases kg:kT kp i with
  | false=>rw [h0 i kg] at h;cases h
  | true=>exact ⟨rfl,(h1 i kg).1.trans h⟩
 have sub:=(y5 kp g).cn
 refine ⟨fun o cs h=>?_,fun o x h=>?_,fun o h=>?_,fun o b s h=>hI.lt o b s (sub _ _ h),fun o o' x x' b s s' e1 e2 e3 e4=>hI.inj o o' x x' b s s' (kn e1).2 (kn e2).2 (sub _ _ e3) (sub _ _ e4),hI.mem,fun o b s i x e1 e2=>hI.o_ o b s i x (kn e1).2 (sub _ _ e2),hI.lp⟩
 ·obtain ⟨q1,q2⟩:=kn h
  rw [lS q1]
  rcases hI.cells o cs q2 with ⟨k1,k2⟩ | ⟨b,t,k1,k2⟩
  ·exact .inl ⟨k1,k2⟩
  ·exact .inr ⟨b,t,k1,k2.conv rfl (fun c hc v hv=>hk o _ h c hc g v hv)⟩
 ·obtain ⟨q1,q2⟩:=kn h
  obtain ⟨b,s,ob,k1,k2,k3⟩:=hI.d_ o x q2
  refine ⟨b,s,ob,by rw [lS q1];exact k1,k2,?_⟩
  have hx:=hk o _ h
  cases x with
  | map es=>
   obtain ⟨lM,clock,e1,e2,e3⟩:=k3
   exact ⟨lM,clock,e1,e2,fun i e q a1 a2=>let hq:=hx q (zG a2);⟨hq.1 g _ (e3 i e q a1 a2).1,hq.2 g _ (e3 i e q a1 a2).2⟩⟩
  | _=>exact hx.elim
 ·cases kg:kT kp o with
  | false=>exact Jq kg
  | true=>rw [lS kg];exact hI.fresh o ((h1 o kg).2.2 h)
theorem GV {kp:Nat→Bool} {g J6:G} {S S0 CD:Hp} {w w':World} (hI:Inv g S w) (h0:∀i,kT kp i=false→S0.ob i=none) (h1:∀i,kT kp i=true→S.ob i=S0.ob i∧(S.fr i↔S0.fr i))
  (hk:∀i x,kT kp i=true→CD.ob i=some x→TY kp x) (Hz:Inv J6 CD w') (x0:Ext S0 (g.ny kp) w CD J6 w') :
  Inv (G.join kp J6 g) (Hp.join kp CD S) w'∧Ext S g w (Hp.join kp CD S) (G.join kp J6 g) w':=by
 have ow:∀{k},ur S0 (g.ny kp) k→∃o s x,kT kp o=true∧S.ob o=some x∧g.cn o=some (some k,s):=fun {k} ⟨o,s,x,e1,e2⟩=>by
  cases kg:kT kp o with
  | false=>rw [h0 o kg] at e1;cases e1
  | true=>exact ⟨o,s,x,kg,(h1 o kg).1.trans e1,(y5 kp g).cn _ _ e2⟩
 have Re:∀{k},ur S0 (g.ny kp) k→ur S g k:=fun {k} h=>by
  obtain ⟨o,s,x,_,e1,e2⟩:=ow h
  exact ⟨o,s,x,e1,e2⟩
 have other:∀{o x b s},kT kp o=false→S.ob o=some x→g.cn o=some (some b,s)→¬ur S0 (g.ny kp) b:=fun {o x b s} hn e1 e2 h=>by
  obtain ⟨o',s',x',k1,k2,k3⟩:=ow h
  have:=hI.inj o o' x x' b s s' e1 k2 e2 k3
  rw [this,k1] at hn;cases hn
 have ji:∀{i},kT kp i=true→(G.join kp J6 g).cn i=J6.cn i∧(Hp.join kp CD S).ob i=CD.ob i∧((Hp.join kp CD S).fr i↔CD.fr i):=fun {i} h=>⟨if_pos h,if_pos h,by show (if kT kp i=true then _ else _)↔_;rw [if_pos h]⟩
 have jo:∀{i},kT kp i=false→(G.join kp J6 g).cn i=g.cn i∧(Hp.join kp CD S).ob i=S.ob i∧((Hp.join kp CD S).fr i↔S.fr i):=fun {i} h=>by
  have h':¬kT kp i=true:=by rw [h];simp
  exact ⟨if_neg h',if_neg h',by show (if kT kp i=true then _ else _)↔_;rw [if_neg h']⟩
 have le:Le g (G.join kp J6 g):=⟨fun o p e=>(by
  cases kg:kT kp o with
  | true=>rw [(ji kg).1];exact x0.le.cn o p (by rw [lS kg];exact e)
  | false=>rw [(jo kg).1];exact e),x0.le.mem,x0.le.lp⟩
 have heap:∀{o x b s},kT kp o=false→S.ob o=some x→g.cn o=some (some b,s)→w'.heap[b]?=w.heap[b]?:=fun {o x b s} hn e1 e2=>x0.frame b (hI.lt o b s e2) (other hn e1 e2)
 refine ⟨⟨fun o cs h=>?_,fun o x h=>?_,fun o h=>?_,fun o b s h=>?_,fun o o' x x' b s s' e1 e2 e3 e4=>?_,Hz.mem,fun o b s i x e1 e2=>?_,Hz.lp⟩,⟨le,x0.os,x0.tape,x0.output,x0.size,fun k hk1 TJ=>x0.frame k hk1 (fun h=>TJ (Re h)),fun k h=>?_,fun o p h=>?_,fun o h=>?_,fun b i x h=>?_,fun b l h=>x0.lpo b l h⟩⟩
 ·cases kg:kT kp o with
  | true=>
   rw [(ji kg).2.1] at h
   rw [(ji kg).1]
   rcases Hz.cells o cs h with ⟨k1,k2⟩ | ⟨b,t,k1,k2⟩
   ·exact .inl ⟨k1,k2⟩
   ·exact .inr ⟨b,t,k1,k2.conv rfl (fun c hc v hv=>(hk o _ kg h c hc).join hv)⟩
  | false=>
   rw [(jo kg).2.1] at h
   rw [(jo kg).1]
   rcases hI.cells o cs h with ⟨k1,k2⟩ | ⟨b,t,k1,k2⟩
   ·exact .inl ⟨k1,k2⟩
   ·exact .inr ⟨b,t,k1,k2.conv (heap kg h k1) (fun c hc v hv=>hv.mono le)⟩
 ·cases kg:kT kp o with
  | true=>
   rw [(ji kg).2.1] at h
   rw [(ji kg).1]
   obtain ⟨b,s,ob,k1,k2,k3⟩:=Hz.d_ o x h
   refine ⟨b,s,ob,k1,k2,?_⟩
   have hx:=hk o _ kg h
   cases x with
   | map es=>
    obtain ⟨lM,clock,e1,e2,e3⟩:=k3
    exact ⟨lM,clock,e1,e2,fun i e q a1 a2=>let hq:=hx q (zG a2);⟨hq.1.join (e3 i e q a1 a2).1,hq.2.join (e3 i e q a1 a2).2⟩⟩
   | _=>exact hx.elim
  | false=>
   rw [(jo kg).2.1] at h
   rw [(jo kg).1]
   obtain ⟨b,s,ob,k1,k2,k3⟩:=hI.d_ o x h
   exact ⟨b,s,ob,k1,(heap kg h k1).trans k2,k3.mono le⟩
 ·cases kg:kT kp o with
  | true=>rw [(ji kg).1];exact Hz.fresh o ((ji kg).2.2.1 h)
  | false=>rw [(jo kg).1];exact hI.fresh o ((jo kg).2.2.1 h)
 ·cases kg:kT kp o with
  | true=>rw [(ji kg).1] at h;exact Hz.lt o b s h
  | false=>rw [(jo kg).1] at h;exact Nat.lt_of_lt_of_le (hI.lt o b s h) x0.size
 ·have mixed:∀{o o' x x' b s s'},kT kp o=true→kT kp o'=false→CD.ob o=some x→S.ob o'=some x'→J6.cn o=some (some b,s)→g.cn o'=some (some b,s')→False:=fun {o o' x x' b s s'} h1 h2 e1 e2 e3 e4=>by
   rcases x0.own b ⟨o,s,x,e1,e3⟩ with h | h
   ·exact other h2 e2 e4 h
   ·have:=hI.lt o' b s' e4;omega
  cases kg:kT kp o with
  | true=>
   rw [(ji kg).2.1] at e1
   rw [(ji kg).1] at e3
   cases vV:kT kp o' with
   | true=>
    rw [(ji vV).2.1] at e2
    rw [(ji vV).1] at e4
    exact Hz.inj o o' x x' b s s' e1 e2 e3 e4
   | false=>
    rw [(jo vV).2.1] at e2
    rw [(jo vV).1] at e4
    exact (mixed kg vV e1 e2 e3 e4).elim
  | false=>
   rw [(jo kg).2.1] at e1
   rw [(jo kg).1] at e3
   cases vV:kT kp o' with
   | true=>
    rw [(ji vV).2.1] at e2
    rw [(ji vV).1] at e4
    exact (mixed vV kg e2 e1 e4 e3).elim
   | false=>
    rw [(jo vV).2.1] at e2
    rw [(jo vV).1] at e4
    exact hI.inj o o' x x' b s s' e1 e2 e3 e4
 ·cases kg:kT kp o with
  | true=>
   rw [(ji kg).2.1] at e1
   rw [(ji kg).1] at e2
   exact Hz.o_ o b s i x e1 e2
  | false=>
   rw [(jo kg).2.1] at e1
   rw [(jo kg).1] at e2
   show J6.mem b i=none
   cases hm:J6.mem b i with
   | none=>rfl
   | some y=>
    rcases x0.yX b i y hm with h | h | h
    ·have:=hI.o_ o b s i x e1 e2
     have h:g.mem b i=some y:=h
     rw [this] at h;cases h
    ·exact absurd h (other kg e1 e2)
    ·have:=hI.lt o b s e2;omega
 ·obtain ⟨o,s,x,e1,e2⟩:=h
  cases kg:kT kp o with
  | true=>
   rw [(ji kg).2.1] at e1
   rw [(ji kg).1] at e2
   rcases x0.own k ⟨o,s,x,e1,e2⟩ with h | h
   ·exact .inl (Re h)
   ·exact .inr h
  | false=>
   rw [(jo kg).2.1] at e1
   rw [(jo kg).1] at e2
   exact .inl ⟨o,s,x,e1,e2⟩
 ·cases kg:kT kp o with
  | true=>
   rw [(ji kg).1] at h
   rcases x0.Qo o p h with h | ⟨h,k⟩
   ·rw [lS kg] at h;exact .inl h
   ·rw [lS kg] at h;exact .inr ⟨h,(h1 o kg).2.2 k⟩
  | false=>rw [(jo kg).1] at h;exact .inl h
 ·cases kg:kT kp o with
  | true=>exact (h1 o kg).2.2 (x0.fr o ((ji kg).2.2.1 h))
  | false=>exact (jo kg).2.2.1 h
 ·rcases x0.yX b i x h with h | h | h
  ·exact .inl h
  ·exact .inr (.inl (Re h))
  ·exact .inr (.inr h)
end
section
open Go.RowKit
theorem PC.frame {P:Program} {f:FuncId} {kp:Nat→Bool} {aa:List A} {S S0 CD:Hp} {r:A} (h0:∀i,kT kp i=false→S0.ob i=none) (h1:∀i,kT kp i=true→S.ob i=S0.ob i∧(S.fr i↔S0.fr i)) (hk:∀i x,S0.ob i=some x→TY kp x)
  (Dw:∀i x,kT kp i=true→CD.ob i=some x→TY kp x) (ha:∀a∈aa,VK kp a) (hr:VK kp r) (h:PC P f aa S0 CD r):PC P f aa S (Hp.join kp CD S) r:=fun g w vs hI hl hv=>by
 refine (h (g.ny kp) w vs (J7 hI h0 h1 hk) hl (fun i p v e1 e2=>ha p (zG e1) g v (hv i p v e1 e2))).mono ?_
 rintro e w' ⟨v,g',rfl,k1,k2,k3⟩
 obtain ⟨q1,q2⟩:=GV hI h0 h1 Dw k2 k3
 exact ⟨v,_,rfl,hr.join k1,q1,q2⟩
def tD (kp:Nat→Bool):Ty→Bool
 | .int _=>true
 | .bool=>true
 | .unit=>true
 | .pair a b=>tD kp a && tD kp b
 | .arr _ t=>tD kp t
 | .cB _=>true
 | .ptr r=>Nat.blt r 64 && kp r
 | .dH r=>Nat.blt r 64 && kp r
 | .kz r _=>Nat.blt r 64 && kp r
 | .sU r _=>Nat.blt r 64 && kp r
 | .mp r=>Nat.blt r 64 && kp r
theorem y4 {kp:Nat→Bool} {r j:Nat} (h:r<64) (hk:kp r=true):kT kp (gV r j)=true:=by
  have h1:=qL r j
  have h2:=nW (j:=j) h
  generalize gV r j=i at h1 h2
  unfold kT
  rw [h2,hk,Bool.and_true]
  cases hx:Nat.blt i 16777216 with
  | false=>rfl
  | true=>
            have:i<16777216:=by simpa using hx
            unfold dJ at h1;omega
theorem VK.v {kp:Nat→Bool} (x:Value):VK kp (.v x):=fun g v h=>by cases h;exact .v _
theorem VK.tp {kp:Nat→Bool} {r j:Nat} (h:r<64) (hk:kp r=true):VK kp (.tp (.cT r j) []):=fun g v hv=>by
 cases hv with
 | tp _ _ b s cR hp=>exact .tp _ _ b s (by rw [show (Ref.cT r j).id=gV r j from rfl,lS (y4 h hk)];exact cR) hp
theorem VK.tw {kp:Nat→Bool} {r j z:Nat} (h:r<64) (hk:kp r=true):VK kp (.tw (.cT r j) z):=fun g v hv=>by
 have e:(g.ny kp).cn (Ref.cT r j).id=g.cn (Ref.cT r j).id:=lS (y4 h hk)
 cases hv with
 | Ai _ _ ad cR=>exact .Ai _ _ ad (by rw [e];exact cR)
 | tw _ _ n b cap t cR hn hx hp d hd=>exact .tw _ _ n b cap t (by rw [e];exact cR) hn hx hp d hd
theorem VK.mp {kp:Nat→Bool} {r j:Nat} (h:r<64) (hk:kp r=true):VK kp (.mp (.cT r j)):=fun g v hv=>by
 cases hv with
 | mp _ b s cR=>exact .mp _ b s (by rw [show (Ref.cT r j).id=gV r j from rfl,lS (y4 h hk)];exact cR)
theorem VK.tl {kp:Nat→Bool} {t:Ty} {f:Bool} {l:List t.T}:VK kp (.tl t f l):=fun g v hv=>by
 cases hv with
 | tl _ _ _ _ hd=>exact .tl t f l v hd
theorem BK {α β:Type} {f:α→List β} {p:β→Prop} (h:∀x,∀c∈f x,p c) (l:List α):∀c∈l.flatMap f,p c:=fun c hc=>by
 obtain ⟨x,_,hx⟩:=List.mem_flatMap.1 hc
 exact h x c hx
theorem qV {kp:Nat→Bool}:∀(t:Ty) (x:t.T),tD kp t=true→∀c∈aJ t x,VK kp c
 | .int k,x,_,c,hc=>by rcases zF.1 hc with rfl;exact .v _
 | .bool,x,_,c,hc=>by rcases zF.1 hc with rfl;exact .v _
 | .unit,x,_,c,hc=>by cases hc
 | .pair a b,x,h,c,hc=>by
  simp only [tD,zC] at h
  rcases zX.1 hc with hc | hc
  ·exact qV a x.1 h.1 c hc
  ·exact qV b x.2 h.2 c hc
 | .arr n t,l,h,c,hc=>BK (f:=fun i=>aJ t (nth t.dO l i)) (fun i c hc=>qV t _ h c hc) _ c hc
 | .cB t,l,_,c,hc=>by rcases zF.1 hc with rfl;exact .tl
 | .ptr r,x,h,c,hc=>by
  simp only [tD,zC] at h
  rcases zF.1 hc with rfl
  intro g v hv
  cases hv with
  | op _ _ _ h0 h1=>exact .op r x v h0 (fun j e=>VK.tp (bU h.1) h.2 g v (h1 j e))
 | .dH r,j,h,c,hc=>by
  simp only [tD,zC] at h
  rcases zF.1 hc with rfl
  exact .tp (bU h.1) h.2
 | .kz r z,x,h,c,hc=>by
  simp only [tD,zC] at h
  rcases zF.1 hc with rfl
  intro g v hv
  cases hv with
  | os _ _ _ _ h0 h1=>exact .os r z x v (fun e=>by cases h0 e with | e0 ad=>exact .e0 ad) (fun j e=>VK.tw (bU h.1) h.2 g v (h1 j e))
 | .sU r z,j,h,c,hc=>by
  simp only [tD,zC] at h
  rcases zF.1 hc with rfl
  exact .tw (bU h.1) h.2
 | .mp r,x,h,c,hc=>by
  simp only [tD,zC] at h
  rcases zF.1 hc with rfl
  intro g v hv
  cases hv with
  | om _ _ _ h0 h1=>exact .om r x v h0 (fun j e=>VK.mp (bU h.1) h.2 g v (h1 j e))
theorem VK.agg {kp:Nat→Bool} {cs:List A} (h:∀c∈cs,VK kp c):VK kp (.agg cs):=fun g v hv=>by
 cases hv with
 | agg _ vs hl h1 h2=>exact .agg cs vs hl h1 (fun i c x e1 e2=>h c (zG e1) g x (h2 i c x e1 e2))
theorem VK.mA {kp:Nat→Bool} {cs:List A} (h:∀c∈cs,VK kp c):VK kp (.mA cs):=fun g v hv=>by
 cases hv with
 | mA _ vs hl h2=>exact .mA cs vs hl (fun i c x e1 e2=>h c (zG e1) g x (h2 i c x e1 e2))
theorem VK.dI {kp:Nat→Bool}:VK kp .dI:=fun g v _=>.dI v
theorem VK.pack {kp:Nat→Bool} {a:Bool} {t:Ty} (x:t.T) (h:tD kp t=true):VK kp (da a t x):=by
 unfold da
 cases a with
 | true=>exact .agg (qV t x h)
 | false=>
  simp only [cond_false]
  split
  ·rename_i c hc
   exact qV t x h c (by rw [hc];exact .head _)
  ·exact .dI
def RK.tD (kp:Nat→Bool):RK→Bool
 | .box t=>Bm.tD kp t
 | .row t=>Bm.tD kp t
 | .map _ tk _ tv=>Bm.tD kp tk && Bm.tD kp tv
theorem F7 {kp:Nat→Bool} {k:RK} {c:k.T} {j:Nat} {x:Ob} (hk:k.tD kp=true) (h:fp k c j=some x):TY kp x:=by
 cases k with
 | box t=>
  have h:(match nz (α:=t.T) c j with | some x=>some (Ob.cells (aJ t x)) | none=>none)=some x:=h
  split at h
  ·cases h;exact qV t _ hk
  ·cases h
 | row t=>
  have h:(match nz (α:=Option (List t.T)) c j with | some (some l)=>some (Ob.cells (l.flatMap (aJ t))) | _=>none)=some x:=h
  split at h
  ·cases h;exact BK (fun y c hc=>qV t y hk c hc) _
  ·cases h
 | map ka tk va tv=>
  have h:(match nz (α:=List (tk.T×tv.T)) c j with | some es=>some (Ob.d_ (.map (aF ka tk va tv es))) | none=>none)=some x:=h
  simp only [RK.tD,zC] at hk
  split at h
  ·cases h
   intro e he
   obtain ⟨y,_,rfl⟩:=List.mem_map.1 he
   exact ⟨.pack _ hk.1,.pack _ hk.2⟩
  ·cases h
end
section
open Go.RowKit
deriving instance DecidableEq for RK
def Q0:List A→A
 | [p]=>p
 | ps=>.mA ps
structure dR where
 ps:List (Bool×Ty)
 rs:List (Bool×Ty)
 rg:List (Nat×RK)
 wg:List (Nat×RK)
def mv:List (Bool×Ty)→Type
 | []=>Unit
 | p::l=>p.2.T×mv l
def pK:(l:List (Bool×Ty))→mv l→List A
 | [],_=>[]
 | p::l,x=>da p.1 p.2 x.1::pK l x.2
def wP:List (Nat×RK)→Type
 | []=>Unit
 | p::l=>p.2.T×wP l
def eL:(l:List (Nat×RK))→wP l→List Rg
 | [],_=>[]
 | p::l,x=>⟨p.1,p.2,x.1⟩::eL l x.2
def h0 (rl wl:List (Nat×RK)) (c:wP rl) (d:wP wl):H:=⟨.nil,0,eL wl d++eL rl c,[]⟩
def QL:(l:List (Bool×Ty))→List A→Option (mv l)
 | [],[]=>some ()
 | p::l,a::aa=>match nw p.1 p.2 a,QL l aa with
  | some x,some y=>some (x,y)
  | _,_=>none
 | _,_=>none
theorem yn:∀(l:List (Bool×Ty)) (aa:List A) (x:mv l),QL l aa=some x→aa.length=(pK l x).length∧∀(i:Nat) (a b:A),aa[i]?=some a→(pK l x)[i]?=some b→∀g v,V g a v→V g b v
 | [],[],x,_=>⟨rfl,fun i a b h=>by simp at h⟩
 | p::l,a::aa,x,h=>by
  simp only [QL] at h
  split at h
  ·rename_i y z h1 h2
   cases h
   obtain ⟨k1,k2⟩:=yn l aa z h2
   refine ⟨congrArg Nat.succ k1,fun i a' b e1 e2=>?_⟩
   cases i with
   | zero=>
    have e1:a=a':=Option.some.inj e1
    have e2:da p.1 p.2 y=b:=Option.some.inj e2
    subst e1 e2
    exact fun g v hv=>mj h1 hv
   | succ i=>exact k2 i a' b e1 e2
  ·cases h
 | [],_::_,_,h=>by cases h
 | _::_,[],_,h=>by cases h
def QA (a b:RK) (c:a.T):Option b.T:=if h:a=b then some (h▸c) else none
def eS (l:List (Nat×RK)) (r:Nat):Bool:=l.any fun p=>Nat.beq p.1 r
def DH:(l:List (Nat×RK))→List Rg→Option (wP l)
 | [],_=>some ()
 | p::l,rg=>match cj rg p.1,DH l rg with
  | some ⟨_,k,c⟩,some y=>match QA k p.2 c with
   | some x=>some (x,y)
   | none=>none
  | _,_=>none
theorem Ep:∀{rg:List Rg} {r:Nat} {x:Rg},cj rg r=some x→x.r=r
 | y::l,r,x,h=>by
  unfold cj at h
  cases hy:Nat.beq y.r r with
  | true=>rw [hy] at h;cases h;exact beq_eq hy
  | false=>rw [hy] at h;exact Ep h
theorem fG:∀(l:List (Nat×RK)) (c:wP l) (r:Nat),eS l r=false→cj (eL l c) r=none
 | [],_,_,_=>rfl
 | p::l,c,r,h=>by
  have h:(Nat.beq p.1 r || eS l r)=false:=h
  rw [Bool.or_eq_false_iff] at h
  show (bif Nat.beq p.1 r then _ else _)=_
  rw [h.1]
  exact fG l c.2 r h.2
theorem lK:∀(l:List (Nat×RK)) (c:wP l) (r:Nat),eS l r=true→∃x,cj (eL l c) r=some x
 | p::l,c,r,h=>by
  show ∃x,(bif Nat.beq p.1 r then some (⟨p.1,p.2,c.1⟩:Rg) else cj (eL l c.2) r)=some x
  cases hq:Nat.beq p.1 r with
  | true=>exact ⟨_,rfl⟩
  | false=>
   have h:(Nat.beq p.1 r || eS l r)=true:=h
   rw [hq,Bool.false_or] at h
   exact lK l c.2 r h
theorem jM:∀(l k:List Rg) (r:Nat),cj (l++k) r=match cj l r with | some x=>some x | none=>cj k r
 | [],k,r=>rfl
 | y::l,k,r=>by
  show (bif Nat.beq y.r r then some y else cj (l++k) r)=match (bif Nat.beq y.r r then some y else cj l r) with | some x=>some x | none=>cj k r
  cases hy:Nat.beq y.r r with
  | true=>rfl
  | false=>exact jM l k r
theorem nA:∀(l:List (Nat×RK)) (rg:List Rg) (c:wP l),DH l rg=some c→∀r,eS l r=true→cj (eL l c) r=cj rg r∧∃x,cj rg r=some x
 | [],_,_,_,_,h=>by cases h
 | p::l,rg,c,hg,r,h=>by
  simp only [DH] at hg
  split at hg
  ·rename_i r' k c' y h1 h2
   split at hg
   ·rename_i x hx
    cases hg
    show (bif Nat.beq p.1 r then some (⟨p.1,p.2,x⟩:Rg) else cj (eL l y) r)=_∧_
    cases hp:Nat.beq p.1 r with
    | true=>
     have e:=beq_eq hp
     subst e
     have hr:=Ep h1
     simp only at hr
     subst hr
     unfold QA at hx
     split at hx
     ·rename_i ek
      obtain ⟨p1,p2⟩:=p
      simp only at ek
      subst ek
      cases hx
      rw [h1]
      exact ⟨rfl,_,rfl⟩
     ·cases hx
    | false=>
     have h:(Nat.beq p.1 r || eS l r)=true:=h
     rw [hp,Bool.false_or] at h
     exact nA l rg y h2 r h
   ·cases hg
  ·cases hg
def VsL (g:G) (aa:List A) (vs:List Value):Prop:=∀(i:Nat) (a:A) (v:Value),aa[i]?=some a→vs[i]?=some v→V g a v
def CvL (h h':H) (T:List Nat) (aa CC:List A):Prop:=CC.length=aa.length∧∃us,hp h'=app us (hp h)∧(∀u∈us,aR (.wr T) u.id=true) ∧
 ∀g S w (vs:List Value),Inv g S w→bK (.wr T) (hp h) S→aa.length=vs.length→VsL g aa vs→∃g',Inv g' (app us S) w∧Ext S g w (app us S) g' w∧VsL g' CC vs
def Nn (a:Bool) (t:Ty) (p:A) (h:H):Option (A×H×List Nat):=bif a then (match p with
 | .agg cs=>match fixC 20 t cs h with
  | some (kq,h',T)=>some (.agg kq,h',T)
  | none=>none
 | _=>none) else bif Dl p then none else (match p.cells with
 | some [c]=>match fixC 20 t [c] h with
  | some ([c'],h',T)=>some (c',h',T)
  | _=>none
 | _=>none)
def GY:List (Bool×Ty)→List A→H→Option (List A×H×List Nat)
 | [],[],h=>some ([],h,[])
 | p::l,a::aa,h=>match Nn p.1 p.2 a h with
  | some (a',h1,T1)=>match GY l aa h1 with
   | some (CC,h2,T2)=>some (a'::CC,h2,T1++T2)
   | none=>none
  | none=>none
 | _,_,_=>none
theorem Hd {p c:A} (ha:Dl p=false) (h:p.cells=some [c]):c=p:=by
 unfold A.cells at h
 split at h
 ·cases ha
 ·rename_i x
  cases hx:x.oneCell' with
  | true=>rw [hx] at h;simp at h;exact h.symm
  | false=>rw [hx] at h;cases h
 ·cases h
 ·cases h
 ·cases h
 ·simp at h;exact h.symm
theorem E_ {a:Bool} {t:Ty} {p p':A} {h h':H} {T:List Nat} (hf:Nn a t p h=some (p',h',T)):∃us,hp h'=app us (hp h)∧(∀u∈us,aR (.wr T) u.id=true)∧∀g S w (v:Value),Inv g S w→bK (.wr T) (hp h) S→V g p v→∃g',Inv g' (app us S) w∧Ext S g w (app us S) g' w∧V g' p' v:=by
 unfold Nn at hf
 cases a with
 | true=>
  simp only [cond_true] at hf
  split at hf
  ·rename_i cs
   split at hf
   ·rename_i kq h1 T1 hc
    simp only [zI,zU] at hf
    obtain ⟨rfl,rfl,rfl⟩:=hf
    obtain ⟨us,c1,c2,c3⟩:=sG _ _ _ _ _ _ _ hc
    refine ⟨us,c1,c2,fun g S w v hI hA hv=>?_⟩
    cases hv with
    | agg _ vs hl h1 hh=>
     obtain ⟨g',q1,q2,q3⟩:=c3 g S w vs.toList hI hA ⟨by simpa using hl,fun j c x e1 e2=>⟨hh j c x e1 (by simpa using e2),h1 x (zG e2)⟩⟩
     exact ⟨g',q1,q2,by have:=q3.agg;simpa using this⟩
   ·cases hf
  ·cases hf
 | false=>
  simp only [cond_false] at hf
  obtain ⟨ha,hf⟩:=lE hf
  split at hf
  ·rename_i c hc
   split at hf
   ·rename_i c' h1 T1 M5
    simp only [zI,zU] at hf
    obtain ⟨rfl,rfl,rfl⟩:=hf
    obtain ⟨us,c1,c2,c3⟩:=sG _ _ _ _ _ _ _ M5
    obtain rfl:=Hd ha hc
    refine ⟨us,c1,c2,fun g S w v hI hA hv=>?_⟩
    obtain ⟨g',q1,q2,q3⟩:=c3 g S w [v] hI hA ⟨rfl,fun j c x e1 e2=>by
     cases j with
     | zero=>simp at e1 e2;subst e1 e2;exact ⟨hv,hv.oF ha hc⟩
     | succ j=>simp at e1⟩
    exact ⟨g',q1,q2,(q3.2 0 _ v rfl rfl).1⟩
   ·cases hf
  ·cases hf
theorem zq:∀{l:List (Bool×Ty)} {aa CC:List A} {h h':H} {T:List Nat},GY l aa h=some (CC,h',T)→CvL h h' T aa CC
 | [],[],CC,h,h',T,hf=>by
  simp only [GY,zI,zU] at hf
  obtain ⟨rfl,rfl,rfl⟩:=hf
  exact ⟨rfl,[],rfl,fun u hu=>(by simp at hu),fun g S w vs hI _ _ hv=>⟨g,hI,.refl S g w,hv⟩⟩
 | p::l,a::aa,CC,h,h',T,hf=>by
  simp only [GY] at hf
  split at hf
  ·rename_i a1 h1 T1 RP
   split at hf
   ·rename_i as1 h2 T2 Za
    simp only [zI,zU] at hf
    obtain ⟨rfl,rfl,rfl⟩:=hf
    obtain ⟨us,c1,c2,c3⟩:=E_ RP
    obtain ⟨hl,vs2,d1,d2,d3⟩:=zq Za
    refine ⟨by simp [hl],us++vs2,by rw [kM,←c1,d1],fun u hu=>?_,fun g S w vs hI hA hlen hv=>?_⟩
    ·rcases zX.1 hu with h | h
     ·exact gK (fun i hi=>zQ _ hi) (c2 u h)
     ·exact gK (fun i hi=>zS _ hi) (d2 u h)
    ·have TR:bK (.wr T1) (hp h) S:=hA.mono fun i hi=>zQ _ hi
     have J0:bK (.wr T2) (hp h1) (app us S):=by rw [c1];exact (hA.mono (fun i hi=>zS _ hi)).app us
     cases vs with
     | nil=>simp at hlen
     | cons v vs=>
      obtain ⟨g',q1,q2,q3⟩:=c3 g S w v hI TR (hv 0 a v rfl rfl)
      obtain ⟨g2,z1,z2,z3⟩:=d3 g' _ w vs q1 J0 (by simpa using hlen) (fun i a v e1 e2=>(hv (i+1) a v (by simpa using e1) (by simpa using e2)).mono q2.le)
      rw [kM]
      refine ⟨g2,z1,q2.trans z2,fun i a v e1 e2=>?_⟩
      cases i with
      | zero=>simp at e1 e2;subst e1 e2;exact q3.mono z2.le
      | succ i=>exact z3 i a v (by simpa using e1) (by simpa using e2)
   ·cases hf
  ·cases hf
 | [],_::_,_,_,_,_,hf=>by cases hf
 | _::_,[],_,_,_,_,hf=>by cases hf
def DL (l:List (Bool×Ty)) (pv:A) (h:H):Option (A×H×List Nat):=match pv with
 | .mA aa=>match GY l aa h with
  | some (CC,h',T)=>some (.mA CC,h',T)
  | none=>none
 | _=>none
def DM (l:List (Bool×Ty)) (pv:A) (h:H):Option (A×H×List Nat):=match l with
 | [p]=>Nn p.1 p.2 pv h
 | l=>DL l pv h
def Plain (sg:dR):Type:=mv sg.ps→wP sg.rg→wP sg.wg→Option (mv sg.rs×wP sg.wg)
def N7 (l:List (Bool×Ty)) (pv:A):Option (mv l):=match l with
 | [p]=>QL [p] [pv]
 | l=>match pv with
  | .mA aa=>QL l aa
  | _=>none
def okW (l:List (Nat×RK)) (q:Nat):Bool:=Nat.beq (q%2) 0 || l.any fun p=>Nat.beq q (kA p.1)
def AO (cx:Cx) (f:FuncId) (sg:dR) (aa:List A) (c:wP sg.rg) (d:wP sg.wg):Option (mv sg.rs×wP sg.wg):=cx.call (mv sg.rs×wP sg.wg) f aa (h0 sg.rg sg.wg c d) (fun pv h' T=>match DM sg.rs pv h' with
 | some (Lc,h2,T2)=>bif T.ws.all (okW sg.wg) && T2.all (okW sg.wg) then (match N7 sg.rs Lc,DH sg.wg h2.rg with
  | some y,some d'=>some (y,d')
  | _,_=>none) else none
 | none=>none)
def QY (cx:Cx) (f:FuncId) (sg:dR):Plain sg:=fun x c d=>AO cx f sg (pK sg.ps x) c d
def wV (l:List (Bool×Ty)) (y:mv l):A:=Q0 (pK l y)
structure bV (P:Program) (f:FuncId) (sg:dR) (F:Plain sg):Prop where
 fn:∀x c d y,F x c d=some y→D_ P f
 pc:∀x c d y d',F x c d=some (y,d')→∃t bF lk,PC P f (pK sg.ps x) (hp (h0 sg.rg sg.wg c d)) (hp ⟨t,bF,eL sg.wg d'++eL sg.rg c,lk⟩) (wV sg.rs y)
theorem EG {l:List (Nat×RK)} {ws:List Nat} (h:ws.all (okW l)=true) {r:Nat} (hr:eS l r=false):ws.any (Nat.beq (kA r))=false:=by
 cases hx:ws.any (Nat.beq (kA r)) with
 | false=>rfl
 | true=>
  obtain ⟨q,h1,h2⟩:=List.any_eq_true.1 hx
  have h3:=List.all_eq_true.1 h q h1
  obtain rfl:=beq_eq h2
  unfold okW at h3
  rw [Bool.or_eq_true] at h3
  rcases h3 with h3 | h3
  ·have:=beq_eq h3;unfold kA at this;omega
  ·obtain ⟨p,p1,p2⟩:=List.any_eq_true.1 h3
   have:r=p.1:=by have:=beq_eq p2;unfold kA at this;omega
   subst this
   rw [show eS l p.1=true from List.any_eq_true.2 ⟨p,p1,Nat.beq_refl _⟩] at hr
   cases hr
theorem HP {l:List (Bool×Ty)} {pv:A} {y:mv l} (h:N7 l pv=some y):∀g v,V g pv v→V g (wV l y) v:=by
 have mA:∀(l:List (Bool×Ty)) (aa:List A) (y:mv l),QL l aa=some y→∀g v,V g (.mA aa) v→V g (.mA (pK l y)) v:=fun l aa y h g v hv=>by
  obtain ⟨k1,k2⟩:=yn l aa y h
  cases hv with
  | mA _ vs hl Ll=>
   refine .mA _ vs (by rw [←k1];exact hl) (fun i c x e1 e2=>?_)
   have hi:i<aa.length:=by rw [k1];exact (zB.1 e1).1
   exact k2 i _ c (zD hi) e1 g x (Ll i _ x (zD hi) e2)
 match l,y,h with
 | [p],y,h=>exact fun g v hv=>(yn [p] [pv] y h).2 0 pv _ rfl rfl g v hv
 | [],y,h=>
  intro g v hv
  cases pv with
  | mA aa=>exact mA [] aa y h g v hv
  | _=>cases h
 | p::q::l,y,h=>
  intro g v hv
  cases pv with
  | mA aa=>exact mA (p::q::l) aa y h g v hv
  | _=>cases h
theorem bK.self {T:Fp} {S:Hp}:bK T S S:=fun _ _=>⟨rfl,Iff.rfl⟩
theorem gR {h:H} {i:Nat} (hl:¬i<dJ):(hp h).ob i=fq h.rg i∧((hp h).fr i↔iM h.rg i):=⟨if_neg hl,by show (if i<dJ then _ else _)↔_;rw [if_neg hl]⟩
theorem tg {i:Nat} (h:¬i<16777216):res i=kA (oM i):=by
 unfold res
 rw [yT h];rfl
theorem GX {l:List (Bool×Ty)} {pv Lc:A} {h h':H} {T:List Nat} (hf:DM l pv h=some (Lc,h',T)):∃us,hp h'=app us (hp h)∧(∀u∈us,aR (.wr T) u.id=true)∧∀g S w (v:Value),Inv g S w→bK (.wr T) (hp h) S→V g pv v→∃g',Inv g' (app us S) w∧Ext S g w (app us S) g' w∧V g' Lc v:=by
 have mA:∀(l:List (Bool×Ty)),DL l pv h=some (Lc,h',T)→∃us,hp h'=app us (hp h)∧(∀u∈us,aR (.wr T) u.id=true)∧∀g S w (v:Value),Inv g S w→bK (.wr T) (hp h) S→V g pv v→∃g',Inv g' (app us S) w∧Ext S g w (app us S) g' w∧V g' Lc v:=fun l hf=>by
  unfold DL at hf
  split at hf
  ·rename_i aa
   split at hf
   ·rename_i CC h1 T1 hc
    simp only [zI,zU] at hf
    obtain ⟨rfl,rfl,rfl⟩:=hf
    obtain ⟨hl,us,c1,c2,c3⟩:=zq hc
    refine ⟨us,c1,c2,fun g S w v hI hA hv=>?_⟩
    cases hv with
    | mA _ vs xh hh=>
     obtain ⟨g',q1,q2,q3⟩:=c3 g S w vs.toList hI hA (by simpa using xh) (fun i c x e1 e2=>hh i c x e1 (by simpa using e2))
     exact ⟨g',q1,q2,.mA CC vs (by rw [hl,xh]) (fun i c x e1 e2=>q3 i c x e1 (by simpa using e2))⟩
   ·cases hf
  ·cases hf
 unfold DM at hf
 split at hf
 ·exact E_ hf
 ·exact mA _ hf
theorem lr {P:Program} {cx:Cx} (hx:nM P cx) (f:FuncId) (sg:dR):∀aa c d y d',AO cx f sg aa c d=some (y,d')→D_ P f∧∃t bF lk,PC P f aa (hp (h0 sg.rg sg.wg c d)) (hp ⟨t,bF,eL sg.wg d'++eL sg.rg c,lk⟩) (wV sg.rs y):=fun aa c d y d' h=>by
 obtain ⟨pv,h',T,k1,k2⟩:=hx.call _ f _ _ _ _ h
 split at k1
 ·rename_i Lc h2 T2 aeK
  obtain ⟨kw,k1⟩:=ab k1
  rw [zC] at kw
  split at k1
  ·rename_i y' d'' h1 hg2
   cases k1
   refine ⟨k2.fn,h2.t,h2.bF,h2.lk,?_⟩
   have hs:=k2.ok (hp (h0 sg.rg sg.wg c d)) bK.self
   have e:l6 T (hp h') (hp (h0 sg.rg sg.wg c d))=hp h':=Hp.ext' (fun i=>by
    show (if aR T i=true then _ else _)=_
    split
    ·rfl
    ·rename_i hi;exact (k2.out i (by simpa using hi)).1.symm) (fun i=>by
    show (if aR T i=true then _ else _)↔_
    split
    ·exact Iff.rfl
    ·rename_i hi;exact (k2.out i (by simpa using hi)).2.symm)
   rw [e] at hs
   obtain ⟨us,c1,c2,c3⟩:=GX aeK
   have hf:=nA _ _ _ hg2
   have e2:hp h2=hp ⟨h2.t,h2.bF,eL sg.wg d'++eL sg.rg c,h2.lk⟩:=by
    have key:∀i,¬i<dJ→(hp h2).ob i=fq (eL sg.wg d'++eL sg.rg c) i∧((hp h2).fr i↔iM (eL sg.wg d'++eL sg.rg c) i):=fun i hl=>by
     cases hk:eS sg.wg (oM i) with
     | true=>
      obtain ⟨q1,x,q2⟩:=hf _ hk
      rw [(gR hl).1,(gR hl).2]
      unfold fq iM
      rw [jM,q1,q2]
      exact ⟨rfl,Iff.rfl⟩
     | false=>
      have hw:wt T i=false:=by
       unfold wt
       rw [tg hl,EG kw.1 hk,Bool.and_false]
      have h3:=k2.rd i hw
      have h4:=gI us (hp h') i (fun u hu e=>by
       have:=c2 u hu
       rw [←e] at this
       have this:T2.any (Nat.beq (res i))=true:=by simpa [aR,Fp.wr] using this
       rw [tg hl,EG kw.2 hk] at this;cases this)
      rw [c1,h4.1,h4.2,h3.1,h3.2,(gR hl).1,(gR hl).2]
      show fq (eL sg.wg d++eL sg.rg c) i=_∧(iM (eL sg.wg d++eL sg.rg c) i↔_)
      unfold fq iM
      rw [jM,jM,fG _ _ _ hk,fG _ _ _ hk]
      exact ⟨rfl,Iff.rfl⟩
    refine Hp.ext' (fun i=>?_) (fun i=>?_)
    ·by_cases hl:i<dJ
     ·show (if i<dJ then _ else _)=(if i<dJ then _ else _);rw [if_pos hl,if_pos hl]
     ·rw [(key i hl).1,(gR hl).1]
    ·by_cases hl:i<dJ
     ·show (if i<dJ then _ else _)↔(if i<dJ then _ else _);rw [if_pos hl,if_pos hl]
     ·rw [(key i hl).2,(gR hl).2]
   rw [←e2,c1]
   intro g w vs hI hl hv
   refine (hs g w vs hI hl hv).mono ?_
   rintro e w' ⟨v,g',rfl,q1,q2,q3⟩
   obtain ⟨g2,z1,z2,z3⟩:=c3 g' _ w' v q2 bK.self q1
   exact ⟨v,g2,rfl,HP h1 g2 v z3,z1,q3.trans z2⟩
  ·cases k1
 ·cases k1
theorem LV {P:Program} {cx:Cx} (hx:nM P cx) (f:FuncId) (sg:dR):bV P f sg (QY cx f sg):=
 ⟨fun x c d y h=>(lr hx f sg _ _ _ y.1 y.2 h).1,fun x c d y d' h=>(lr hx f sg _ _ _ _ _ h).2⟩
end
section
open Go.RowKit
def mL:(l:List (Nat×RK))→wP l→List Rg→List Rg
 | [],_,rg=>rg
 | p::l,x,rg=>lJ (mL l x.2 rg) p.1 p.2 x.1
theorem nY:∀(l:List (Nat×RK)) (rg:List Rg) (c':wP l),(∀r,eS l r=true→∃x,cj rg r=some x)→∀r,cj (mL l c' rg) r=if eS l r=true then cj (eL l c') r else cj rg r
 | [],rg,c',_,r=>by simp [mL,eS]
 | p::l,rg,c',hx,r=>by
  have ih:=nY l rg c'.2 (fun r hr=>hx r (by show (Nat.beq p.1 r || eS l r)=true;rw [hr,Bool.or_true]))
  have hp:∃x,cj (mL l c'.2 rg) p.1=some x:=by
   rw [ih]
   split
   ·rename_i hk
    exact lK l c'.2 p.1 hk
   ·exact hx p.1 (by show (Nat.beq p.1 p.1 || eS l p.1)=true;rw [Nat.beq_refl];rfl)
  obtain ⟨x,hp⟩:=hp
  show cj (lJ (mL l c'.2 rg) p.1 p.2 c'.1) r=if (Nat.beq p.1 r || eS l r)=true then (bif Nat.beq p.1 r then some (⟨p.1,p.2,c'.1⟩:Rg) else cj (eL l c'.2) r) else cj rg r
  rw [pW _ p.1 p.2 c'.1 r x hp,ih]
  by_cases hr:r=p.1
  ·subst hr;rw [if_pos rfl,Nat.beq_refl];simp
  ·have:Nat.beq p.1 r=false:=by
    cases hb:Nat.beq p.1 r with
    | false=>rfl
    | true=>exact absurd (beq_eq hb).symm hr
   rw [if_neg hr,this];simp
def dR.al (sg:dR):List (Nat×RK):=sg.wg++sg.rg
theorem Jn (l k:List (Nat×RK)) (r:Nat):eS (l++k) r=(eS l r || eS k r):=List.any_append
def Xc (sg:dR) (h:H):Bool:=(sg.al.all fun p=>Nat.blt p.1 64 && p.2.tD (eS sg.al)) && (sg.wg.all fun p=>!(Bv h (kA p.1))) && (sg.ps.all fun p=>tD (eS sg.al) p.2) && (sg.rs.all fun p=>tD (eS sg.al) p.2)
def Su (sg:dR):Fp:=⟨false,sg.al.map fun p=>kA p.1,!sg.wg.isEmpty,sg.wg.map fun p=>kA p.1⟩
section
variable {β:Type}
def ctR (sg:dR) (F:Plain sg) (aa:List A) (h:H) (K:A→H→Fp→Option β):Option β:=match QL sg.ps aa,DH sg.rg h.rg,DH sg.wg h.rg with
 | some x,some c,some d=>bif Xc sg h then bd (F x c d) (fun p=>HX (wV sg.rs p.1) (fun v=>K v { h with rg:=mL sg.wg p.2 h.rg } (Su sg))) else none
 | _,_,_=>none
def ctK (sg:dR) (F:Plain sg) (aa:List A) (h:H) (K:A→H→Fp→Option β):Option β:=match GY sg.ps aa h with
 | some (CC,h1,T1)=>ctR sg F CC h1 (fun v h2 T=>K v h2 ((Fp.wr T1).cat T))
 | none=>none
theorem MJ {kp:Nat→Bool} {i:Nat} (h:i<16777216):kT kp i=false:=by
 unfold kT
 rw [Dg h];rfl
theorem Jo {kp:Nat→Bool} {i:Nat} (h:¬i<16777216):kT kp i=kp (oM i):=by
 unfold kT
 rw [yT h];rfl
theorem Ac (l:List (Nat×RK)) (r:Nat):(l.map fun p=>kA p.1).any (Nat.beq (kA r))=eS l r:=by
 induction l with
 | nil=>rfl
 | cons p l ih=>
  show (Nat.beq (kA r) (kA p.1) || (l.map fun p=>kA p.1).any (Nat.beq (kA r)))=(Nat.beq p.1 r || eS l r)
  rw [ih]
  have:Nat.beq (kA r) (kA p.1)=Nat.beq p.1 r:=by
   cases h1:Nat.beq p.1 r with
   | true=>rw [beq_eq h1];exact Nat.beq_refl _
   | false=>
    cases h2:Nat.beq (kA r) (kA p.1) with
    | false=>rfl
    | true=>
     have:p.1=r:=by have:=beq_eq h2;unfold kA at this;omega
     rw [this,Nat.beq_refl] at h1;cases h1
  rw [this]
theorem NO (l:List (Nat×RK)) (i:Nat):(l.map fun p=>kA p.1).any (Nat.beq (fT i))=false:=by
 induction l with
 | nil=>rfl
 | cons p l ih=>
  show (Nat.beq (fT i) (kA p.1) || (l.map fun p=>kA p.1).any (Nat.beq (fT i)))=false
  rw [ih,Bool.or_false]
  cases h2:Nat.beq (fT i) (kA p.1) with
  | false=>rfl
  | true=>have:=beq_eq h2;unfold kA fT at this;omega
theorem rE (sg:dR) (i:Nat):aR (Su sg) i=kT (eS sg.al) i:=by
 have e:aR (Su sg) i=(sg.al.map fun p=>kA p.1).any (Nat.beq (res i)):=Bool.false_or _
 rw [e]
 by_cases h:i<16777216
 ·rw [pX h,MJ h];exact NO _ _
 ·rw [tg h,Jo h];exact Ac _ _
theorem Vt {sg:dR} {i:Nat} (h:wt (Su sg) i=false) (hl:¬i<16777216):eS sg.wg (oM i)=false:=by
 have e:(!sg.wg.isEmpty && (sg.wg.map fun p=>kA p.1).any (Nat.beq (res i)))=false:=h
 rw [tg hl,Ac] at e
 cases hw:sg.wg with
 | nil=>rfl
 | cons p l=>rw [hw] at e;simpa using e
theorem wG {kp:Nat→Bool}:∀(l:List (Bool×Ty)) (x:mv l),(l.all fun p=>tD kp p.2)=true→∀a∈pK l x,VK kp a
 | [],_,_,a,ha=>by cases ha
 | p::l,x,h,a,ha=>by
  simp only [List.all_cons,zC] at h
  rcases List.mem_cons.1 ha with rfl | ha
  ·exact .pack _ h.1
  ·exact wG l x.2 h.2 a ha
theorem vg {kp:Nat→Bool}:∀(l:List (Nat×RK)) (c:wP l),(∀p∈l,p.2.tD kp=true)→∀r q,cj (eL l c) r=some q→q.k.tD kp=true
 | [],c,_,r,q,h=>by cases h
 | p::l,c,hl,r,q,h=>by
  have h:(bif Nat.beq p.1 r then some (⟨p.1,p.2,c.1⟩:Rg) else cj (eL l c.2) r)=some q:=h
  cases hb:Nat.beq p.1 r with
  | true=>rw [hb] at h;cases h;exact hl p (.head _)
  | false=>rw [hb] at h;exact vg l c.2 (fun p hp=>hl p (.tail _ hp)) r q h
theorem Sv {P:Program} {f:FuncId} {sg:dR} {F:Plain sg} (hF:bV P f sg F) {aa:List A} {h:H} {K:A→H→Fp→Option β} {r:β} (hr:ctR sg F aa h K=some r):∃pv h' T,K pv h' T=some r∧FH P f aa h h' T pv:=by
 unfold ctR at hr
 split at hr
 ·rename_i x c d hx hc hd
  obtain ⟨hs,hr⟩:=ab hr
  obtain ⟨⟨y,d'⟩,hy,hr⟩:=wF hr
  obtain ⟨pv,hr,tG⟩:=CN hr
  unfold Xc at hs
  simp only [zC] at hs
  obtain ⟨⟨⟨MU,_⟩,hs2⟩,hs3⟩:=hs
  obtain ⟨t,bF,lk,hpc⟩:=hF.pc x c d y d' hy
  have hfc:=nA _ _ _ hc
  have hfd:=nA _ _ _ hd
  have xe:=nY sg.wg h.rg d' (fun r hr=>(hfd r hr).2)
  have kpa:∀r,eS sg.al r=(eS sg.wg r || eS sg.rg r):=fun r=>Jn _ _ r
  have fA:∀r,eS sg.al r=true→cj (eL sg.wg d++eL sg.rg c) r=cj h.rg r:=fun r hk=>by
   rw [jM]
   cases hw:eS sg.wg r with
   | true=>obtain ⟨e,q,hq⟩:=hfd r hw;rw [e,hq]
   | false=>
    rw [fG _ _ _ hw]
    exact (hfc r (by rw [kpa,hw] at hk;simpa using hk)).1
  have fB:∀r,eS sg.al r=true→cj (eL sg.wg d'++eL sg.rg c) r=cj (mL sg.wg d' h.rg) r:=fun r hk=>by
   rw [jM,xe]
   cases hw:eS sg.wg r with
   | true=>obtain ⟨q,hq⟩:=lK sg.wg d' r hw;rw [hq];simp
   | false=>
    rw [fG _ _ _ hw]
    exact (hfc r (by rw [kpa,hw] at hk;simpa using hk)).1
  have fC:∀r,eS sg.al r=false→cj (eL sg.wg d++eL sg.rg c) r=none:=fun r hk=>by
   rw [kpa,Bool.or_eq_false_iff] at hk
   rw [jM,fG _ _ _ hk.1]
   exact fG _ _ _ hk.2
  have fD:∀i,(¬i<dJ→eS sg.wg (oM i)=false)→(hp { h with rg:=mL sg.wg d' h.rg }).ob i=(hp h).ob i∧((hp { h with rg:=mL sg.wg d' h.rg }).fr i↔(hp h).fr i):=fun i hi=>by
   show (if i<dJ then ir h.t i else fq (mL sg.wg d' h.rg) i)=(if i<dJ then ir h.t i else fq h.rg i)∧((if i<dJ then h.bF≤i else iM (mL sg.wg d' h.rg) i)↔(if i<dJ then h.bF≤i else iM h.rg i))
   by_cases hl:i<dJ
   ·rw [if_pos hl,if_pos hl,if_pos hl,if_pos hl];exact ⟨rfl,Iff.rfl⟩
   ·rw [if_neg hl,if_neg hl,if_neg hl,if_neg hl]
    have:=xe (oM i)
    rw [hi hl,if_neg (by simp)] at this
    unfold fq iM
    rw [this];exact ⟨rfl,Iff.rfl⟩
  have I5:∀{i},kT (eS sg.al) i=true→¬i<dJ∧eS sg.al (oM i)=true:=fun {i} hi=>by
   unfold kT at hi
   simp only [zC,Bool.not_eq_true'] at hi
   refine ⟨fun hl=>?_,hi.2⟩
   have:Nat.blt i 16777216=true:=Dg hl
   rw [this] at hi;cases hi.1
  have Yr:∀{i},kT (eS sg.al) i=false→¬i<dJ→eS sg.al (oM i)=false:=fun {i} hi hl=>by
   rw [Jo hl] at hi;exact hi
  have inL:∀(l:List Rg),(∀r q,cj l r=some q→q.k.tD (eS sg.al)=true)→∀i x,¬i<dJ→fq l i=some x→TY (eS sg.al) x:=fun l hl i x _ hx=>by
   unfold fq at hx
   split at hx
   ·rename_i q hq
    exact F7 (hl _ q hq) hx
   ·cases hx
  have inA:∀(d1:wP sg.wg) r q,cj (eL sg.wg d1++eL sg.rg c) r=some q→q.k.tD (eS sg.al)=true:=fun d1 r q hq=>by
   have lb:∀p∈sg.al,p.2.tD (eS sg.al)=true:=fun p hp=>by
    have:=List.all_eq_true.1 MU p hp
    simp only [zC] at this
    exact this.2
   rw [jM] at hq
   split at hq
   ·rename_i q1 h1
    cases hq
    exact vg sg.wg d1 (fun p hp=>lb p (zQ _ hp)) _ _ h1
   ·exact vg sg.rg c (fun p hp=>lb p (zS _ hp)) _ _ hq
  refine ⟨pv,_,_,hr,⟨fun i hi=>fD i (fun hl=>?_),fun i hi=>fD i (fun hl=>Vt hi hl),hF.fn x c d _ hy,fun S2 hA=>?_⟩⟩
  ·rw [rE] at hi
   have:=Yr hi hl
   rw [kpa,Bool.or_eq_false_iff] at this
   exact this.1
  ·have YX:=PC.frame (kp:=eS sg.al) (S:=S2) (fun i hi=>?_) (fun i hi=>?_) (fun i q hq=>?_) (fun i q hi hq=>?_) (wG sg.ps x hs2) (r:=wV sg.rs y) ?_ hpc
   ·have e:Hp.join (eS sg.al) (hp ⟨t,bF,eL sg.wg d'++eL sg.rg c,lk⟩) S2=l6 (Su sg) (hp { h with rg:=mL sg.wg d' h.rg }) S2:=by
     refine Hp.ext' (fun i=>?_) (fun i=>?_)
     ·show (if kT (eS sg.al) i=true then _ else _)=(if aR (Su sg) i=true then _ else _)
      rw [rE]
      by_cases hi:kT (eS sg.al) i=true
      ·obtain ⟨n1,n2⟩:=I5 hi
       rw [if_pos hi,if_pos hi,(gR n1).1,(gR n1).1]
       unfold fq
       rw [fB _ n2]
      ·rw [if_neg hi,if_neg hi]
     ·show (if kT (eS sg.al) i=true then _ else _)↔(if aR (Su sg) i=true then _ else _)
      rw [rE]
      by_cases hi:kT (eS sg.al) i=true
      ·obtain ⟨n1,n2⟩:=I5 hi
       rw [if_pos hi,if_pos hi,(gR n1).2,(gR n1).2]
       unfold iM
       rw [fB _ n2]
      ·rw [if_neg hi,if_neg hi]
    rw [e] at YX
    obtain ⟨u1,u2⟩:=yn _ _ _ hx
    intro g w vs hI hl hv
    refine (YX g w vs hI (by rw [←u1];exact hl) (fun i p v e1 e2=>?_)).mono ?_
    ·have hi:i<aa.length:=by rw [u1];exact (zB.1 e1).1
     exact u2 i _ p (zD hi) e1 g v (hv i _ v (zD hi) e2)
    ·rintro e w' ⟨v,g',rfl,q1,q2,q3⟩
     exact ⟨v,g',rfl,tG g' v q1,q2,q3⟩
   ·by_cases hl:i<dJ
    ·show (if i<dJ then ir .nil i else _)=none
     rw [if_pos hl];rfl
    ·rw [(gR hl).1]
     show fq (eL sg.wg d++eL sg.rg c) i=none
     unfold fq
     rw [fC _ (Yr hi hl)]
   ·obtain ⟨n1,n2⟩:=I5 hi
    obtain ⟨a1,a2⟩:=hA i (by rw [rE];exact hi)
    rw [a1,a2,(gR n1).1,(gR n1).2,(gR n1).1,(gR n1).2]
    show fq h.rg i=fq (eL sg.wg d++eL sg.rg c) i∧(iM h.rg i↔iM (eL sg.wg d++eL sg.rg c) i)
    unfold fq iM
    rw [fA _ n2];exact ⟨rfl,Iff.rfl⟩
   ·by_cases hl:i<dJ
    ·have hq:(if i<dJ then ir .nil i else _)=some q:=hq
     rw [if_pos hl] at hq;cases hq
    ·rw [(gR hl).1] at hq
     exact inL _ (inA d) i q hl hq
   ·rw [(gR (I5 hi).1).1] at hq
    exact inL _ (inA d') i q (I5 hi).1 hq
   ·have lb:=wG (kp:=eS sg.al) sg.rs y hs3
    unfold wV
    generalize pK sg.rs y=ps at lb
    match ps,lb with
    | [p],lb=>exact lb p (.head _)
    | [],lb=>exact .mA lb
    | p::q::ps,lb=>exact .mA lb
 ·cases hr
theorem Sw {P:Program} {f:FuncId} {sg:dR} {F:Plain sg} (hF:bV P f sg F) {aa:List A} {h:H} {K:A→H→Fp→Option β} {r:β} (hr:ctK sg F aa h K=some r):∃pv h' T,K pv h' T=some r∧FH P f aa h h' T pv:=by
 unfold ctK at hr
 split at hr
 ·rename_i CC h1 T1 M5
  obtain ⟨pv,h2,T,k1,k2⟩:=Sv hF hr
  obtain ⟨hl,us,c1,c2,c3⟩:=zq M5
  have out:∀i,aR (.wr T1) i=false→(hp h1).ob i=(hp h).ob i∧((hp h1).fr i↔(hp h).fr i):=fun i hi=>by
   rw [c1];exact gI us _ i (fun u hu e=>by rw [e,c2 u hu] at hi;cases hi)
  have f1:s_ h h1 (.wr T1):=⟨out,fun i hi=>out i (xt hi)⟩
  have f2:s_ h1 h2 T:=⟨k2.out,k2.rd⟩
  refine ⟨pv,h2,_,k1,(f1.trans f2).out,(f1.trans f2).rd,k2.fn,fun S2 hA=>?_⟩
  rw [←je f2]
  have A1:=hA.left
  have A2:=bK.right f1 hA
  have e:l6 (.wr T1) (hp h1) S2=app us S2:=by rw [c1];exact lR c2 A1
  rw [e] at A2 ⊢
  intro g w vs hI kP hv
  obtain ⟨g1,q1,q2,q3⟩:=c3 g S2 w vs hI A1 kP hv
  refine (k2.ok _ A2 g1 w vs q1 (by rw [hl];exact kP) q3).mono ?_
  rintro e w' ⟨v,g',rfl,z1,z2,z3⟩
  exact ⟨v,g',rfl,z1,z2,q2.trans z3⟩
 ·cases hr
end
end
section
open Go.RowKit
def stay (N i:Nat):Prop:=i<N∨¬i<dJ
structure D9 (N:Nat) (g g':G):Prop where
 cn:∀i,stay N i→g'.cn i=g.cn i
 mem:g'.mem=g.mem
 lp:g'.lp=g.lp
def VP (N:Nat) (c:A):Prop:=∀g g' v,D9 N g g'→V g c v→V g' c v
def Lg (N:Nat):Ref→Bool
 | .loc o=>Nat.blt o N
 | .cT _ _=>true
theorem n5 {N:Nat} {x:Ref} (h:Lg N x=true) {g g':G} (k:D9 N g g'):g'.cn x.id=g.cn x.id:=by
 cases x with
 | loc o=>exact k.cn o (.inl (bU h))
 | cT r j=>exact k.cn _ (.inr (Nat.not_lt.2 (qL r j)))
def okF (p:A→Bool):Nat→Tr A→Bool
 | 0,_=>true
 | n+1,F=>p (cd F.get n) && okF p n F
theorem I2 {p:A→Bool} {F:Tr A}:∀{n:Nat},okF p n F=true→∀i,i<n→p (cd F.get i)=true
 | n+1,h,i,hi=>by
  have h:(p (cd F.get n) && okF p n F)=true:=h
  rw [zC] at h
  by_cases e:i=n
  ·rw [e];exact h.1
  ·exact I2 h.2 i (by omega)
def yR (N:Nat):Nat→A→Bool
 | 0,_=>false
 | k+1,a=>match a with
  | .agg cs=>cs.all (yR N k)
  | .mA cs=>cs.all (yR N k)
  | .fn _ fi ca=>fi.all (yR N k) && ca.all (yR N k)
  | .ptr o _=>Nat.blt o N
  | .tp x _=>Lg N x
  | .sl o _ _ _=>Nat.blt o N
  | .ts x _ _ _=>Lg N x
  | .tf x _ _ _=>Lg N x
  | .tw x _=>Lg N x
  | .aa x _ _ _=>Lg N x
  | .mp x=>Lg N x
  | .wL q n F _ _ _ _=>Nat.blt q N && okF (yR N k) n F
  | _=>true
theorem VP.tp {N:Nat} {x:Ref} {π:List Sp} (h:Lg N x=true):VP N (.tp x π):=fun g g' v k hv=>by
 cases hv with
 | tp _ _ b s h1 hk=>exact .tp x π b s ((n5 h k).trans h1) hk
theorem VP.tw {N:Nat} {x:Ref} {z:Nat} (h:Lg N x=true):VP N (.tw x z):=fun g g' v k hv=>by
 cases hv with
 | Ai _ _ ad h1=>exact .Ai x z ad ((n5 h k).trans h1)
 | tw _ _ n b cap t h1 hn hx hp d hd=>exact .tw x z n b cap t ((n5 h k).trans h1) hn hx hp d hd
theorem VP.e0 {N:Nat}:VP N .e0:=fun g g' v k hv=>by cases hv;exact .e0 _
theorem VP.mp {N:Nat} {x:Ref} (h:Lg N x=true):VP N (.mp x):=fun g g' v k hv=>by
 cases hv with
 | mp _ b s h1=>exact .mp x b s ((n5 h k).trans h1)
theorem iS {N:Nat}:∀(k:Nat) (a:A),yR N k a=true→VP N a
 | 0,_,h=>by cases h
 | k+1,.v x,_=>fun g g' v _ hv=>by cases hv;exact .v _
 | k+1,.agg cs,h=>fun g g' v hg hv=>by
  have h:cs.all (yR N k)=true:=h
  rw [List.all_eq_true] at h
  cases hv with
  | agg _ vs hl h1 hh=>exact .agg cs vs hl h1 (fun i c x e1 e2=>iS k c (h c (zG e1)) g g' x hg (hh i c x e1 e2))
 | k+1,.mA cs,h=>fun g g' v hg hv=>by
  have h:cs.all (yR N k)=true:=h
  rw [List.all_eq_true] at h
  cases hv with
  | mA _ vs hl hh=>exact .mA cs vs hl (fun i c x e1 e2=>iS k c (h c (zG e1)) g g' x hg (hh i c x e1 e2))
 | k+1,.fn f fi ca,h=>fun g g' v hg hv=>by
  have h:(fi.all (yR N k) && ca.all (yR N k))=true:=h
  rw [zC,List.all_eq_true,List.all_eq_true] at h
  cases hv with
  | fn _ _ _ fv cv hf hc h1 h2=>exact .fn f fi ca fv cv hf hc (fun i c x e1 e2=>iS k c (h.1 c (zG e1)) g g' x hg (h1 i c x e1 e2)) (fun i c x e1 e2=>iS k c (h.2 c (zG e1)) g g' x hg (h2 i c x e1 e2))
 | k+1,.ptr o off,h=>fun g g' v hg hv=>by
  cases hv with
  | ptr _ _ b s h1=>exact .ptr o off b s ((hg.cn o (.inl (bU h))).trans h1)
 | k+1,.tp x π,h=>.tp h
 | k+1,.sl o off z n,h=>fun g g' v hg hv=>by
  cases hv with
  | sl _ _ _ _ b cap s h1 hn hx hs=>exact .sl o off z n b cap s ((hg.cn o (.inl (bU h))).trans h1) hn hx hs
 | k+1,.ts x z off n,h=>fun g g' v hg hv=>by
  cases hv with
  | ts _ _ _ _ b cap s h1 hn hx hs hp d hd hq=>exact .ts x z off n b cap s ((n5 h hg).trans h1) hn hx hs hp d hd hq
  | xv _ _ _ _ ad h1 hn=>exact .xv x z off n ad ((n5 h hg).trans h1) hn
 | k+1,.tf x z off n,h=>fun g g' v hg hv=>by
  cases hv with
  | tf _ _ _ _ b s h1 hx hs d hd=>exact .tf x z off n b s ((n5 h hg).trans h1) hx hs d hd
  | HU _ _ _ _ ad h1 hn=>exact .HU x z off n ad ((n5 h hg).trans h1) hn
 | k+1,.tw x z,h=>.tw h
 | k+1,.aa x π n z,h=>fun g g' v hg hv=>by
  cases hv with
  | aa _ _ _ _ b cap s h1 hk hn hx=>exact .aa x π n z b cap s ((n5 h hg).trans h1) hk hn hx
 | k+1,.e0,_=>.e0
 | k+1,.tl t f l,_=>fun g g' v hg hv=>by
  cases hv with
  | tl _ _ _ _ h=>exact .tl t f l v (by rw [hg.mem];exact h)
 | k+1,.nn t l,_=>fun g g' v hg hv=>by
  cases hv with
  | nn _ _ a n c h=>exact .nn t l a n c (by rw [hg.mem];exact h)
 | k+1,.dp t x,_=>fun g g' v hg hv=>by
  cases hv with
  | dp _ _ b off f hm=>exact .dp t x b off f (fun j c e=>by rw [hg.mem];exact hm j c e)
 | k+1,.mp x,h=>.mp h
 | k+1,.op r o,_=>fun g g' v hg hv=>by
  cases hv with
  | op _ _ _ h0 h1=>exact .op r o v h0 (fun j e=>VP.tp (N:=N) (x:=.cT r j) rfl g g' v hg (h1 j e))
 | k+1,.os r z o,_=>fun g g' v hg hv=>by
  cases hv with
  | os _ _ _ _ h0 h1=>exact .os r z o v (fun e=>VP.e0 (N:=N) g g' v hg (h0 e)) (fun j e=>VP.tw (N:=N) (x:=.cT r j) rfl g g' v hg (h1 j e))
 | k+1,.om r o,_=>fun g g' v hg hv=>by
  cases hv with
  | om _ _ _ h0 h1=>exact .om r o v h0 (fun j e=>VP.mp (N:=N) (x:=.cT r j) rfl g g' v hg (h1 j e))
 | k+1,.wL q n F ps j aa bd,h=>fun g g' v hg hv=>by
  have h:(Nat.blt q N && okF (yR N k) n F)=true:=h
  rw [zC] at h
  cases hv with
  | wL _ _ _ _ _ _ _ b s l h0 hl h1 h2 h3 h4 h5=>exact .wL q n F ps j aa bd b s l ((hg.cn q (.inl (bU h.1))).trans h0) (by rw [hg.lp];exact hl) h1 h2 h3 h4 (fun i hi=>iS k _ (I2 h.2 i hi) g g' _ hg (h5 i hi))
 | k+1,.un,_=>fun g g' v _ hv=>by cases hv;exact .un
 | k+1,.dI,_=>fun g g' v _ _=>.dI v
theorem lu {N:Nat}:∀(t:Ty) (x:t.T),∀c∈aJ t x,VP N c
 | .int k,x,c,h=>by rcases zF.1 h with rfl;exact iS 1 _ rfl
 | .bool,x,c,h=>by rcases zF.1 h with rfl;exact iS 1 _ rfl
 | .unit,_,c,h=>by cases h
 | .pair a b,x,c,h=>(zX.1 h).elim (lu a x.1 c) (lu b x.2 c)
 | .arr n t,l,c,h=>by
  obtain ⟨i,_,h⟩:=List.mem_flatMap.1 h
  exact lu t _ c h
 | .cB t,l,c,h=>by rcases zF.1 h with rfl;exact iS 1 _ rfl
 | .ptr r,x,c,h=>by rcases zF.1 h with rfl;exact iS 1 _ rfl
 | .dH r,j,c,h=>by rcases zF.1 h with rfl;exact iS 1 _ rfl
 | .kz r z,x,c,h=>by rcases zF.1 h with rfl;exact iS 1 _ rfl
 | .sU r z,j,c,h=>by rcases zF.1 h with rfl;exact iS 1 _ rfl
 | .mp r,x,c,h=>by rcases zF.1 h with rfl;exact iS 1 _ rfl
theorem rT {N:Nat} (a:Bool) (t:Ty) (x:t.T):VP N (da a t x):=by
 unfold da
 have h:=lu (N:=N) t x
 cases a with
 | true=>
  intro g g' v hg hv
  cases hv with
  | agg _ vs hl h1 hh=>exact .agg _ vs hl h1 (fun i c y e1 e2=>h c (zG e1) g g' y hg (hh i c y e1 e2))
 | false=>
  generalize aJ t x=cs at h
  match cs,h with
  | [c],h=>exact h c (.head _)
  | [],_=>exact fun g g' v _ _=>.dI v
  | _::_::_,_=>exact fun g g' v _ _=>.dI v
def Lh (N:Nat):Ob→Prop
 | .cells cs=>∀c∈cs,VP N c
 | .d_ (.map es)=>∀e∈es,VP N e.1∧VP N e.2
 | .d_ .Fm=>True
 | .d_ (.loop _ _)=>True
theorem Iq {N:Nat} {k:RK} {c:k.T} {j:Nat} {x:Ob} (h:fp k c j=some x):Lh N x:=by
 cases k with
 | box t=>
  simp only [fp] at h
  split at h
  ·cases h;exact lu t _
  ·cases h
 | row t=>
  simp only [fp] at h
  split at h
  ·cases h;exact fun c hc=>by obtain ⟨y,_,hy⟩:=List.mem_flatMap.1 hc;exact lu t y c hy
  ·cases h
 | map ka tk va tv=>
  simp only [fp] at h
  split at h
  ·cases h;exact fun e he=>by obtain ⟨y,_,rfl⟩:=List.mem_map.1 he;exact ⟨rT _ _ _,rT _ _ _⟩
  ·cases h
def gjv (g:G):Option (Option Nat)→Option (Option Nat×(Nat×Nat))
 | some (some o)=>g.cn o
 | some none=>some (none,(0,0))
 | none=>none
def gj (N:Nat) (names:List (Option Nat)) (g:G):G:=⟨fun i=>if i<N∨¬i<dJ then g.cn i else gjv g names[i-N]?,g.mem,g.lp⟩
theorem J3 (N:Nat) (names:List (Option Nat)) (g:G):D9 N g (gj N names g):=⟨fun i h=>if_pos h,rfl,rfl⟩
theorem BH {N:Nat} {names:List (Option Nat)} {g:G} {k:Nat} {nm:Option Nat} (h:names[k]?=some nm) (hl:N+names.length≤dJ):(gj N names g).cn (N+k)=gjv g (some nm):=by
 have hk:=(zB.1 h).1
 show (if N+k<N∨¬N+k<dJ then g.cn (N+k) else _)=_
 rw [if_neg (by omega),Nat.add_sub_cancel_left,h]
theorem pS.to {g g':G} {w:World} {b t:Nat} {cs:List A} (h:pS g w b t cs) {N:Nat} (hs:D9 N g g') (hc:∀c∈cs,VP N c):pS g' w b t cs:=by
 obtain ⟨cur,ty,k1,k2,k3,k4⟩:=h
 exact ⟨cur,ty,k1,k2,k3,fun j c x e1 e2=>⟨hc c (zG e1) g g' x hs (k4 j c x e1 e2).1,(k4 j c x e1 e2).2⟩⟩
theorem sQ.to {g g':G} {x:SW} {ob:Obj} (h:sQ g x ob) {N:Nat} (hs:D9 N g g') (hc:Lh N (.d_ x)):sQ g' x ob:=by
 cases x with
 | map es=>
  obtain ⟨lM,clock,k1,k2,k3⟩:=h
  exact ⟨lM,clock,k1,k2,fun i e q e1 e2=>⟨(hc q (zG e2)).1 g g' _ hs (k3 i e q e1 e2).1,(hc q (zG e2)).2 g g' _ hs (k3 i e q e1 e2).2⟩⟩
 | Fm=>exact h
 | loop=>exact h
theorem Q1 {N:Nat} {names:List (Option Nat)} {S S' S0:Hp} {g g0:G} {w w0:World} (hl:N+names.length≤dJ)
  (h1:∀i x,stay N i→S'.ob i=some x→(S.ob i=some x∧Lh N x)∨∃cs kq,S.ob i=some (.cells cs)∧x = .cells kq∧kq.length=cs.length∧∀vs,Vs g cs vs→Vs (gj N names g) kq vs)
  (h2:∀i x,¬stay N i→S'.ob i=some x→∃k nm,i=N+k∧names[k]?=some nm∧(∀o,nm=some o→S.ob o=some x∧Lh N x)∧(nm=none→x = .cells []))
  (h3:∀(k k' o:Nat),names[k]?=some (some o)→names[k']?=some (some o)→k=k')
  (h4:∀(k o:Nat),names[k]?=some (some o)→stay N o→S'.ob o=none)
  (h5:∀i,S'.fr i→(¬stay N i→N+names.length≤i)∧(stay N i→S.fr i))
  (hf:∀o,N≤o→o<dJ→S0.fr o∧g0.cn o=none) (hI:Inv g S w) (hE:Ext S0 g0 w0 S g w) :
  Inv (gj N names g) S' w∧Ext S0 g0 w0 S' (gj N names g) w:=by
 have hs:=J3 N names g
 have ns:∀{i},¬stay N i→N≤i∧i<dJ:=fun {i} h=>by unfold stay at h;omega
 have Zg:∀i,¬stay N i→(gj N names g).cn i=gjv g names[i-N]?:=fun i h=>if_neg h
 have src:∀i x b s,S'.ob i=some x→(gj N names g).cn i=some (some b,s)→∃o y,S.ob o=some y∧g.cn o=some (some b,s)∧(i=o∧stay N i∨¬stay N i∧∃k,i=N+k∧names[k]?=some (some o)):=fun i x b s e1 e2=>by
  by_cases hi:stay N i
  ·rcases h1 i x hi e1 with ⟨q1,q2⟩ | ⟨cs,kq,q1,_,_⟩
   ·exact ⟨i,x,q1,by rw [←hs.cn i hi];exact e2,.inl ⟨rfl,hi⟩⟩
   ·exact ⟨i,_,q1,by rw [←hs.cn i hi];exact e2,.inl ⟨rfl,hi⟩⟩
  ·obtain ⟨k,nm,rfl,hk,q1,q2⟩:=h2 i x hi e1
   rw [BH hk hl] at e2
   cases nm with
   | none=>cases e2
   | some o=>exact ⟨o,x,(q1 o rfl).1,e2,.inr ⟨hi,k,rfl,hk⟩⟩
 have inj:∀i j x y b s s',S'.ob i=some x→S'.ob j=some y→(gj N names g).cn i=some (some b,s)→(gj N names g).cn j=some (some b,s')→i=j:=fun i j x y b s s' e1 e2 k1 k2=>by
  obtain ⟨o1,x1,p1,p3,p4⟩:=src i x b s e1 k1
  obtain ⟨o2,x2,q1,q3,q4⟩:=src j y b s' e2 k2
  have ho:=hI.inj o1 o2 x1 x2 b s s' p1 q1 p3 q3
  subst ho
  rcases p4 with ⟨rfl,p5⟩ | ⟨p5,k,rfl,p6⟩
  ·rcases q4 with ⟨rfl,_⟩ | ⟨q5,k',rfl,q6⟩
   ·rfl
   ·rw [h4 k' i q6 p5] at e1;cases e1
  ·rcases q4 with ⟨rfl,q5⟩ | ⟨q5,k',rfl,q6⟩
   ·rw [h4 k j p6 q5] at e2;cases e2
   ·rw [h3 k k' o1 p6 q6]
 refine ⟨⟨fun i cs e=>?_,fun i x e=>?_,fun i e=>?_,fun i b s e=>?_,inj,hI.mem,fun i b s j x e k=>?_,hI.lp⟩,⟨⟨fun o p e=>?_,fun _ _ _ e=>hE.le.mem _ _ _ e,fun _ _ e=>hE.le.lp _ _ e⟩,hE.os,hE.tape,hE.output,hE.size,hE.frame,fun k ⟨i,s,x,e1,e2⟩=>?_,fun o p e=>?_,fun o e=>?_,hE.yX,hE.lpo⟩⟩
 ·by_cases hi:stay N i
  ·rw [hs.cn i hi]
   rcases h1 i _ hi e with ⟨q1,q2⟩ | ⟨ds,nQ,q1,q2,q3,q4⟩
   ·exact (hI.cells i cs q1).imp id fun ⟨b,t,k1,k2⟩=>⟨b,t,k1,k2.to hs q2⟩
   ·cases q2
    rcases hI.cells i ds q1 with ⟨k1,k2⟩ | ⟨b,t,k1,cur,ty,k2,k3,k4⟩
    ·exact .inl ⟨k1,List.length_eq_zero_iff.1 (by rw [q3,k2];rfl)⟩
    ·exact .inr ⟨b,t,by rw [q3];exact k1,cur,ty,k2,k3,by rw [q3];exact q4 _ k4⟩
  ·obtain ⟨k,nm,rfl,hk,q1,q2⟩:=h2 i _ hi e
   rw [BH hk hl]
   cases nm with
   | none=>
    have:=q2 rfl
    cases this
    exact .inl ⟨rfl,rfl⟩
   | some o=>
    obtain ⟨q3,q4⟩:=q1 o rfl
    exact (hI.cells o cs q3).imp id fun ⟨b,t,k1,k2⟩=>⟨b,t,k1,k2.to hs q4⟩
 ·by_cases hi:stay N i
  ·rcases h1 i _ hi e with ⟨q1,q2⟩ | ⟨ds,nQ,q1,q2,q3⟩
   ·obtain ⟨b,s,ob,k1,k2,k3⟩:=hI.d_ i x q1
    exact ⟨b,s,ob,(hs.cn i hi).trans k1,k2,k3.to hs q2⟩
   ·cases q2
  ·obtain ⟨k,nm,rfl,hk,q1,q2⟩:=h2 i _ hi e
   cases nm with
   | none=>have:=q2 rfl;cases this
   | some o=>
    obtain ⟨q3,q4⟩:=q1 o rfl
    obtain ⟨b,s,ob,k1,k2,k3⟩:=hI.d_ o x q3
    exact ⟨b,s,ob,(BH hk hl).trans k1,k2,k3.to hs q4⟩
 ·obtain ⟨q1,q2⟩:=h5 i e
  by_cases hi:stay N i
  ·rw [hs.cn i hi];exact hI.fresh i (q2 hi)
  ·rw [Zg i hi,zb (by have:=q1 hi;omega)];rfl
 ·by_cases hi:stay N i
  ·rw [hs.cn i hi] at e;exact hI.lt i b s e
  ·rw [Zg i hi] at e
   generalize names[i-N]?=nm at e
   match nm,e with
   | some (some o),e=>exact hI.lt o b s e
 ·obtain ⟨o,y,p1,p3,_⟩:=src i x b s e k
  exact hI.o_ o b s j y p1 p3
 ·have hi:stay N o:=by
   by_cases hi:stay N o
   ·exact hi
   ·obtain ⟨a1,a2⟩:=ns hi
    rw [(hf o a1 a2).2] at e;cases e
  rw [hs.cn o hi];exact hE.le.cn o p e
 ·obtain ⟨o,y,p1,p3,_⟩:=src i x k s e1 e2
  exact hE.own k ⟨o,s,y,p1,p3⟩
 ·by_cases hi:stay N o
  ·rw [hs.cn o hi] at e;exact hE.Qo o p e
  ·obtain ⟨a1,a2⟩:=ns hi
   exact .inr ⟨(hf o a1 a2).2,(hf o a1 a2).1⟩
 ·by_cases hi:stay N o
  ·exact hE.fr o ((h5 o e).2 hi)
  ·obtain ⟨a1,a2⟩:=ns hi
   exact (hf o a1 a2).1
end
end Go.Bm