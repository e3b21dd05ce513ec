/- Texts of one proof, put together: see each part. -/
import Derived.Test.YtklkjncibchelaaGreatPA
set_option maxHeartbeats 2000000
noncomputable section
set_option linter.unusedVariables false
set_option linter.unusedSimpArgs false
namespace Go.Bm
section
open Go.RowKit
theorem lh {s:Nat}:∀(π σ:List Sp),Cb s (π++σ)↔Cb s π∧Cb s σ
 | [],σ=>⟨fun h=>⟨trivial,h⟩,fun h=>h.2⟩
 | .fst::π,σ=>lh π σ
 | .snd _::π,σ=>lh π σ
 | .ix _ _::π,σ=>(and_congr_right fun _=>lh π σ).trans and_assoc.symm
 | .ai _ _ _::π,σ=>(and_congr_right fun _=>lh π σ).trans and_assoc.symm
theorem jK:∀(π σ:List Sp),du (π++σ)=du π+du σ
 | [],σ=>(Nat.zero_add _).symm
 | .fst::π,σ=>jK π σ
 | .snd c::π,σ=>by show c+du (π++σ)=c+du π+du σ;rw [jK π σ,Nat.add_assoc]
 | .ix i z::π,σ=>by show i*z+du (π++σ)=i*z+du π+du σ;rw [jK π σ,Nat.add_assoc]
 | .ai i n z::π,σ=>by show i*z+du (π++σ)=i*z+du π+du σ;rw [jK π σ,Nat.add_assoc]
section
variable {P:Program} {E:Env} {o:Oper} {ρ:Operand→A} {h:H} {β:Type} {K:A→H→Fp→Option β} {r:β}
theorem Step.Ci {h h':H} {T:Fp} {pv C3:A} (k:Step P o ρ h h' T pv) (hv:∀g v,V g pv v→V g C3 v):Step P o ρ h h' T C3 where
 out:=k.out
 rd:=k.rd
 ok:=fun S2 hS=>fun r g w a next Q hI hx K'=>k.ok S2 hS r g w a next Q hI hx (fun v g' w' h1 h2 h3=>K' v g' w' (hv _ _ h1) h2 h3)
def Cw (v:A) (k:A→Option β):Option β:=match v with
 | .op r o=>opt o (k (.v (.pointer none))) (fun j=>k (.tp (.eh r j) []))
 | .os r z o=>opt o (k .e0) (fun j=>k (.tw (.eh r j) z))
 | .om r o=>opt o (k (.v (.map none))) (fun j=>k (.mp (.eh r j)))
 | v=>k v
theorem wX {v:A} {k:A→Option β} (hr:Cw v k=some r):∃v',k v'=some r∧∀g x,V g v x→V g v' x:=by
 unfold Cw at hr
 split at hr
 ·rcases g_ hr with ⟨e,h1⟩ | ⟨j,e,h1⟩
  ·exact ⟨_,h1,fun g x hv=>by cases hv with | op _ _ _ h0 _=>rw [h0 e];exact .v _⟩
  ·exact ⟨_,h1,fun g x hv=>by cases hv with | op _ _ _ _ h0=>exact h0 j e⟩
 ·rcases g_ hr with ⟨e,h1⟩ | ⟨j,e,h1⟩
  ·exact ⟨_,h1,fun g x hv=>by cases hv with | os _ _ _ _ h0 _=>exact h0 e⟩
  ·exact ⟨_,h1,fun g x hv=>by cases hv with | os _ _ _ _ _ h0=>exact h0 j e⟩
 ·rcases g_ hr with ⟨e,h1⟩ | ⟨j,e,h1⟩
  ·exact ⟨_,h1,fun g x hv=>by cases hv with | om _ _ _ h0 _=>rw [h0 e];exact .v _⟩
  ·exact ⟨_,h1,fun g x hv=>by cases hv with | om _ _ _ _ h0=>exact h0 j e⟩
 ·exact ⟨_,hr,fun g x hv=>hv⟩
def Out (P:Program) (o:Oper) (ρ:Operand→A) (h:H) (K:A→H→Fp→Option β) (r:β):Prop:=∃pv h' T,K pv h' T=some r∧Step P o ρ h h' T pv
theorem Out.pure {v:A} (hr:K v h .no=some r) (k:∀S2,eM P o ρ S2 S2 v) (hd:∀c,o.op≠.defer c):Out P o ρ h K r:=⟨v,h,.no,hr,.pure k hd⟩
theorem Out.read {v:A} (T:List Nat) (hr:K v h (.rd T)=some r) (k:∀S2,Agree (.rd T) (hp h) S2→eM P o ρ S2 S2 v) (hd:∀c,o.op≠.defer c):Out P o ρ h K r:=⟨v,h,.rd T,hr,.read _ k hd⟩
theorem Out.sp {h':H} {T:Fp} {v:A} (hr:Cw v (fun v=>K v h' T)=some r) (k:Step P o ρ h h' T v):Out P o ρ h K r:=by
 obtain ⟨v',h1,h2⟩:=wX hr
 exact ⟨v',h',T,h1,k.Ci h2⟩
def mvK (x:A) (h:H) (K:A→H→Fp→Option β):Option β:=K x h .no
def Mw (px:A) (ix:Nat) (h:H) (K:A→H→Fp→Option β):Option β:=match px with
 | .iM cs=>match cs[ix]? with
  | some p=>Cw p (fun v=>K v h .no)
  | none=>none
 | _=>none
theorem H2 {x:Operand} {ix:Nat} (ho:o.op = .extract x ix) (hr:Mw (ρ x) ix h K=some r):Out P o ρ h K r:=by
 unfold Mw at hr
 split at hr
 ·rename_i cs hx
  split at hr
  ·rename_i p hp
   exact .sp hr (.pure (fun S2=>vl ho hx hp) (by rw [ho];intro c e;cases e))
  ·cases hr
 ·cases hr
def Dc (px py pz:A) (h:H) (K:A→H→Fp→Option β):Option β:=match px with
 | .v (.bool b)=>br b (K py h .no) (K pz h .no)
 | _=>none
theorem Db {x y z:Operand} (ho:o.op = .pick x y z) (hr:Dc (ρ x) (ρ y) (ρ z) h K=some r):Out P o ρ h K r:=by
 unfold Dc at hr
 split at hr
 ·rename_i b hx
  rcases kh hr with ⟨rfl,h1⟩ | ⟨rfl,h1⟩
  ·exact .pure h1 (fun S2=>by have:=vi (P:=P) (S:=S2) ho hx;simpa using this) (by rw [ho];intro c e;cases e)
  ·exact .pure h1 (fun S2=>by have:=vi (P:=P) (S:=S2) ho hx;simpa using this) (by rw [ho];intro c e;cases e)
 ·cases hr
def Wa (op:BinOp) (k:IntKind) (m n:Int) (K:Value→Option β):Option β:=match op with
 | .add=>K (.int k (ae k m n))
 | .sub=>K (.int k (aD k m n))
 | .mul=>K (.int k (dO k m n))
 | .quo=>gd (Hr n) (K (.int k (Bl k m n)))
 | .rem=>gd (Hr n) (K (.int k (dB m n)))
 | .and=>K (.int k (bits .and k m n))
 | .or=>K (.int k (bits .or k m n))
 | .xor=>K (.int k (bits .xor k m n))
 | .andNot=>K (.int k (bits .andNot k m n))
 | .eql=>K (.bool (af m n))
 | .neq=>K (.bool (ax (af m n)))
 | .lss=>K (.bool (aX m n))
 | .leq=>K (.bool (cW m n))
 | .gtr=>K (.bool (aX n m))
 | .geq=>K (.bool (cW n m))
 | _=>none
theorem Il {op:BinOp} {k:IntKind} {m n:Int} {K:Value→Option β} (hr:Wa op k m n K=some r):∃v,K v=some r∧Hv op k m n=some v:=by
 cases op with
 | quo=>
  obtain ⟨h1,h2⟩:=bq (show gd (Hr n) (K (.int k (Bl k m n)))=some r from hr)
  exact ⟨_,h2,if_neg h1⟩
 | rem=>
  obtain ⟨h1,h2⟩:=bq (show gd (Hr n) (K (.int k (dB m n)))=some r from hr)
  exact ⟨_,h2,if_neg h1⟩
 | _=>first | exact ⟨_,hr,rfl⟩ | cases hr
def shI (op:BinOp) (k:IntKind) (m n:Int) (K:Value→Option β):Option β:=match op with
 | .shl=>gd (bw n) (K (.int k (kW k m n)))
 | .shr=>gd (bw n) (K (.int k (jq k m n)))
 | _=>none
theorem Lg {op:BinOp} {k:IntKind} {m n:Int} {K:Value→Option β} (hr:shI op k m n K=some r):∃v,K v=some r∧xn op k m n=some v:=by
 cases op with
 | shl=>
  obtain ⟨h1,h2⟩:=bq (show gd (bw n) (K (.int k (kW k m n)))=some r from hr)
  exact ⟨_,h2,if_neg (by unfold bw at h1;omega)⟩
 | shr=>
  obtain ⟨h1,h2⟩:=bq (show gd (bw n) (K (.int k (jq k m n)))=some r from hr)
  exact ⟨_,h2,if_neg (by unfold bw at h1;omega)⟩
 | _=>cases hr
def Ku:BinOp→Bool
 | .shl=>true
 | .shr=>true
 | _=>false
def isEq:BinOp→Bool
 | .eql=>true
 | .neq=>true
 | _=>false
theorem kX {op:BinOp} (h:isEq op=true):op = .eql∨op = .neq:=by cases op<;>first | exact .inl rfl | exact .inr rfl | cases h
def Bc (op:BinOp) (b:Bool):Bool:=match op with
 | .eql=>b
 | _=>ax b
theorem nQ {op:BinOp} (b:Bool) (h:isEq op=true):Bc op b=if op = .eql then b else !b:=by
 rcases kX h with rfl | rfl<;>rfl
def A_ (p q:A):Option Bool:=match q with
 | .v (.slice none 0 0)=>match p with
  | .v (.slice none _ _)=>some true
  | .nn _ _=>some false
  | .aa _ _ _ _=>some false
  | .sl _ _ _ _=>some false
  | _=>none
 | _=>none
theorem G7 {g:G} {p q:A} {u v:Value} {b:Bool} (h:A_ p q=some b) (hp:V g p u) (hq:V g q v):v = .slice none 0 0∧∃A n c,u = .slice A n c∧A.isNone=b:=by
 unfold A_ at h
 split at h
 ·cases hq
  refine ⟨rfl,?_⟩
  split at h
  ·cases h;cases hp;exact ⟨_,_,_,rfl,rfl⟩
  ·cases h;cases hp;exact ⟨_,_,_,rfl,rfl⟩
  ·cases h;cases hp;exact ⟨_,_,_,rfl,rfl⟩
  ·cases h;cases hp;exact ⟨_,_,_,rfl,rfl⟩
  ·cases h
 ·cases h
theorem CO (d:Nat) (w:World) {T E:TypeId} (hT:P.underlying T=some (.slice E)) (A:Option Addr) (n c:Nat):(Op.equalIn (d+1) T (.slice A n c) (.slice none 0 0)).run P w = .ok A.isNone w:=by
 cases A<;>simp [Op.equalIn,run_underlying hT]
theorem yu (w:World) {T E:TypeId} (hT:P.underlying T=some (.slice E)) (A:Option Addr) (n c:Nat):(Op.equalIn 10000 T (.slice A n c) (.slice none 0 0)).run P w = .ok A.isNone w:=CO 9999 w hT A n c
theorem GZ {S:Hp} {op:BinOp} {T T' E:TypeId} {x y:Operand} {b:Bool} (ho:o.op = .binOp op T x y T') (hT:P.underlying T=some (.slice E)) (rD:op = .eql∨op = .neq)
  (hb:A_ (ρ x) (ρ y)=some b):eM P o ρ S S (.v (.bool (if op = .eql then b else !b))):=
 .value fun g w a _ hv=>by
  obtain ⟨e2,A,n,c,h1,h2⟩:=G7 hb (hv x (by simp [ho,Op.operands])) (hv y (by simp [ho,Op.operands]))
  have eH:=yu (P:=P) w hT A n c
  rw [h2] at eH
  refine ⟨.bool (if op = .eql then b else !b),?_,.v _⟩
  have jN:(eqGuard op T x y (.slice A n c) (.slice none 0 0)).run P w = .ok () w:=by
   rcases rD with rfl | rfl<;>rfl
  rcases rD with rfl | rfl
  ·have hb:(binOp .eql T (.slice A n c) (.slice none 0 0)).run P w = .ok (.bool b) w:=by
    simp only [binOp];simp [Op.equal,Op.maxDepth,eH]
   simp only [execOp,ho,h1,e2,Sem.run_bind,jN,Result.andThen_ok,if_true,hb,Sem.run_pure]
  ·have hb:(binOp .neq T (.slice A n c) (.slice none 0 0)).run P w = .ok (.bool (!b)) w:=by
    simp only [binOp];simp [Op.equal,Op.maxDepth,eH]
   simp only [execOp,ho,h1,e2,Sem.run_bind,jN,Result.andThen_ok,hb,Sem.run_pure]
   rfl
def Fh (E:Env) (op:BinOp) (T:Nat) (px py:A) (h:H) (K:A→H→Fp→Option β):Option β:=match px,py with
 | .v (.int k m),.v (.int k' n)=>bif Ku op then shI op k m n (fun v=>K (.v v) h .no) else if k=k' then Wa op k m n (fun v=>K (.v v) h .no) else none
 | .v (.bool p),.v (.bool q)=>bif isEq op then (match cq E.dJ T with
  | some ⟨.bool,_,_,_,_,_,_⟩=>K (.v (.bool (Bc op (pK p q)))) h .no
  | _=>none) else none
 | px,py=>bif isEq op then (match cq E.dJ T with
  | some e=>match e.d with
   | .pointer _=>match Dw px py with
    | some b=>K (.v (.bool (Bc op b))) h .no
    | none=>none
   | .slice _=>match A_ px py with
    | some b=>K (.v (.bool (Bc op b))) h .no
    | none=>none
   | .struct _=>bif hP px && hP py && E.eqs.any (Nat.beq T) then (match px.cells,py.cells with
    | some cs,some ds=>match uI E 6 T cs ds with
     | some b=>K (.v (.bool (Bc op b))) h .no
     | none=>none
    | _,_=>none) else none
   | _=>none
  | none=>none) else none
theorem uk (hE:bR P E) {op:BinOp} {T T':TypeId} {x y:Operand} (ho:o.op = .binOp op T x y T') (hr:Fh E op T (ρ x) (ρ y) h K=some r):Out P o ρ h K r:=by
 have hd:∀c,o.op≠.defer c:=by rw [ho];intro c e;cases e
 unfold Fh at hr
 split at hr
 ·rename_i k m k' n hx hy
  cases hs:Ku op with
  | true=>
   rw [hs] at hr
   simp only [cond_true] at hr
   obtain ⟨v,h1,h2⟩:=Lg hr
   exact .pure h1 (fun S2=>AT ho hx hy h2) hd
  | false=>
   rw [hs] at hr
   simp only [cond_false] at hr
   split at hr
   ·rename_i hk;subst hk
    obtain ⟨v,h1,h2⟩:=Il hr
    exact .pure h1 (fun S2=>G1 ho hx hy h2) hd
   ·cases hr
 ·rename_i p q hx hy
  obtain ⟨hq,hr⟩:=ah hr
  split at hr
  ·rename_i ht
   refine .pure hr (fun S2=>?_) hd
   have:=G0 (P:=P) (S:=S2) ho (hE.dJ _ _ ht).u hx hy (kX hq)
   rw [nQ _ hq]
   rcases kX hq with rfl | rfl<;>exact this
  ·cases hr
 ·obtain ⟨hq,hr⟩:=ah hr
  split at hr
  ·rename_i e ht
   split at hr
   ·rename_i el B5
    split at hr
    ·rename_i b hb
     refine .pure hr (fun S2=>?_) hd
     rw [nQ _ hq]
     exact AV ho (by rw [(hE.dJ _ _ ht).u,B5]) hb (kX hq)
    ·cases hr
   ·rename_i el B5
    split at hr
    ·rename_i b hb
     refine .pure hr (fun S2=>?_) hd
     rw [nQ _ hq]
     exact GZ ho (by rw [(hE.dJ _ _ ht).u,B5]) (kX hq) hb
    ·cases hr
   ·rename_i fs B5
    obtain ⟨hc,hr⟩:=ah hr
    simp only [zC] at hc
    split at hr
    ·rename_i cs ds h1 h2
     split at hr
     ·rename_i b hb
      refine .pure hr (fun S2=>?_) hd
      rw [nQ _ hq]
      exact AW hE ho ht (by rw [B5];rfl) (hE.eqs _ hc.2) hc.1.1 hc.1.2 h1 h2 hb (by omega) (kX hq)
     ·cases hr
    ·cases hr
   ·cases hr
  ·cases hr
def Xs (op:UnOp) (px:A) (h:H) (K:A→H→Fp→Option β):Option β:=match op,px with
 | .not,.v (.bool b)=>K (.v (.bool (ax b))) h .no
 | _,_=>none
theorem K_ {op:UnOp} {T:TypeId} {x:Operand} (ho:o.op = .unOp op T x) (hr:Xs op (ρ x) h K=some r):Out P o ρ h K r:=by
 unfold Xs at hr
 split at hr
 ·rename_i b hx
  exact .pure hr (fun S2=>GU ho hx) (by rw [ho];intro c e;cases e)
 ·cases hr
def aeu (E:Env) (s d:Nat) (px:A) (h:H) (K:A→H→Fp→Option β):Option β:=match cq E.dJ s,cq E.dJ d,px with
 | some _,some ⟨.int k',_,_,_,_,_,_⟩,.v (.int k n)=>if k'=k then K (.v (.int k n)) h .no else K (.v (.int k' (cJ k' n))) h .no
 | _,_,_=>none
def cvK (E:Env) (s d:Nat) (px:A) (h:H) (K:A→H→Fp→Option β):Option β:=match cq E.dJ s,cq E.dJ d,px with
 | some _,some ⟨.int k',_,_,_,_,_,_⟩,.v (.int _ n)=>K (.v (.int k' (cJ k' n))) h .no
 | _,_,_=>none
theorem MI (hE:bR P E) {s d:TypeId} {x:Operand} (ho:o.op = .convert s d x) (hr:cvK E s d (ρ x) h K=some r):Out P o ρ h K r:=by
 unfold cvK at hr
 split at hr
 ·rename_i es _ _ _ _ _ _ _ _ _ hs mE hx
  exact .pure hr (fun S2=>Dk ho (by rw [(hE.dJ _ _ hs).u];rfl) (hE.dJ _ _ mE).u hx) (by rw [ho];intro c e;cases e)
 ·cases hr
def Sv (px:A) (h:H) (K:A→H→Fp→Option β):Option β:=bif DU px then K px h .no else none
theorem G9 {x:Operand} (ho:o.op = .nilCheck x) (hr:Sv (ρ x) h K=some r):Out P o ρ h K r:=by
 obtain ⟨h1,h2⟩:=ah hr
 exact .pure h2 (fun S2=>tq ho h1) (by rw [ho];intro c e;cases e)
end
end
section
open Go.RowKit
section
variable {P:Program} {E:Env} {o:Oper} {ρ:Operand→A} {h:H} {β:Type} {K:A→H→Fp→Option β} {r:β}
def ld:Nat→Ty→Nat→Option (List Sp)
 | 1,_,0=>some []
 | _+2,.pair _ _,0=>some [.fst]
 | n+2,.pair a b,f+1=>match ld (n+1) b f with
  | some π=>some (.snd a.size::π)
  | none=>none
 | _,_,_=>none
theorem tY {s:Nat}:∀(n:Nat) (t:Ty) (f:Nat) (π:List Sp),ld n t f=some π→Cb s π
 | 0,_,_,_,h=>by simp [ld] at h
 | 1,_,0,_,h=>by simp [ld] at h;subst h;trivial
 | 1,_,f+1,_,h=>by simp [ld] at h
 | n+2,.pair a b,0,_,h=>by simp [ld] at h;subst h;trivial
 | n+2,.pair a b,f+1,_,h=>by
  simp only [ld] at h
  split at h
  ·rename_i π' h'
   cases h
   exact tY (s:=s) (n+1) b f π' h'
  ·cases h
 | n+2,.int _,f,_,h=>by cases f<;>simp [ld] at h
 | n+2,.bool,f,_,h=>by cases f<;>simp [ld] at h
 | n+2,.unit,f,_,h=>by cases f<;>simp [ld] at h
 | n+2,.arr _ _,f,_,h=>by cases f<;>simp [ld] at h
 | n+2,.aI _,f,_,h=>by cases f<;>simp [ld] at h
 | n+2,.ptr _,f,_,h=>by cases f<;>simp [ld] at h
 | n+2,.db _,f,_,h=>by cases f<;>simp [ld] at h
 | n+2,.iX _ _,f,_,h=>by cases f<;>simp [ld] at h
 | n+2,.oA _ _,f,_,h=>by cases f<;>simp [ld] at h
 | n+2,.mp _,f,_,h=>by cases f<;>simp [ld] at h
def Ms (E:Env) (T f:Nat) (px:A) (h:H) (K:A→H→Fp→Option β):Option β:=match cq E.dJ T with
 | some ⟨.struct fs,_,_,_,_,t,_⟩=>match fs[f]? with
  | some fd=>match cq E.dJ fd.type with
   | some e=>bif Nat.blt 0 e.size then (match px with
    | .ptr o off=>K (.ptr o (off+fd.offset)) h .no
    | .tp X π=>match t with
     | some t=>match ld fs.size t f with
      | some σ=>bif Nat.beq (du σ) fd.offset then K (.tp X (π++σ)) h .no else none
      | none=>none
     | none=>none
    | .dp t x=>match ld fs.size t f with
     | some σ=>bif Nat.beq (du σ) fd.offset then (match nh σ t x with
      | some s=>K (.dp s.t s.x) h .no
      | none=>none) else none
     | none=>none
    | _=>none) else none
   | none=>none
  | none=>none
 | _=>none
theorem HV (hE:bR P E) {T f:Nat} {x:Operand} (ho:o.op = .fieldAddr T x f) (hr:Ms E T f (ρ x) h K=some r):Out P o ρ h K r:=by
 have hd:∀c,o.op≠.defer c:=by rw [ho];intro c e;cases e
 unfold Ms at hr
 split at hr
 ·rename_i fs _ _ _ _ t _ ht
  split at hr
  ·rename_i fd hf
   split at hr
   ·rename_i e he
    obtain ⟨h0,hr⟩:=ah hr
    have h0:=ba h0
    have m0:∀{v:A},(∀g u,V g (ρ x) u→∃b off,u = .pointer (some ⟨b,off,none⟩)∧V g v (.pointer (some ⟨b,off+fd.offset,none⟩)))→∀S2,eM P o ρ S2 S2 v:=fun hv S2=>
     AU ho (hE.dJ _ _ ht).u hf (hE.dJ _ _ he).ti.size (by omega) hv
    split at hr
    ·rename_i q off hx
     refine .pure hr (m0 fun g u hu=>?_) hd
     rw [hx] at hu
     cases hu with
     | ptr _ _ b s hb=>exact ⟨b,off,rfl,.ptr _ _ b s hb⟩
    ·rename_i X π hx
     split at hr
     ·rename_i t'
      split at hr
      ·rename_i σ hσ
       obtain ⟨hc,hr⟩:=ah hr
       refine .pure hr (m0 fun g u hu=>?_) hd
       rw [hx] at hu
       cases hu with
       | tp _ _ b s hb hk=>
        refine ⟨b,du π,rfl,?_⟩
        rw [←beq_eq hc,←jK]
        exact .tp X _ b s hb ((lh π σ).2 ⟨hk,tY _ _ _ _ hσ⟩)
      ·cases hr
     ·cases hr
    ·rename_i t' y hx
     split at hr
     ·rename_i σ hσ
      obtain ⟨hc,hr⟩:=ah hr
      split at hr
      ·rename_i sg YR
       refine .pure hr (m0 fun g u hu=>?_) hd
       rw [hx] at hu
       cases hu with
       | dp _ _ b off f hm=>
        obtain ⟨a,c,q1,q2⟩:=lV σ t' y 0 sg YR (tY _ _ _ _ hσ)
        refine ⟨b,off,rfl,.dp sg.t sg.x b _ (fun j=>f (du σ+j)) (fun j d hj=>?_)⟩
        have:=hm (du σ+j) d (by
         rw [q1,zJ (by omega),show du σ+j-a.length=j by omega,zK (zB.1 hj).1];exact hj)
        rw [←beq_eq hc,Nat.add_assoc]
        exact this
      ·cases hr
     ·cases hr
    ·cases hr
   ·cases hr
  ·cases hr
 ·cases hr
def Wy:Nat→Nat→Int→(Nat→Option β)→Option β
 | 0,_,_,_=>none
 | n+1,i,m,k=>br (af m (zN i)) (k i) (Wy n (i+1) m k)
theorem wW {m:Int} {k:Nat→Option β}:∀(n i:Nat),Wy n i m k=some r→∃j,k j=some r∧m=((j:Nat):Int)∧i≤j∧j<i+n
 | 0,i,h=>by cases h
 | n+1,i,h=>by
  rcases kh h with ⟨e,h1⟩ | ⟨e,h1⟩
  ·exact ⟨i,h1,of_decide_eq_true e,Nat.le_refl _,by omega⟩
  ·obtain ⟨j,k1,k2,k3,k4⟩:=wW n (i+1) h1
   exact ⟨j,k1,k2,by omega,by omega⟩
def Yt:Operand→Option Nat
 | .const (.int _ (.ofNat n))=>some n
 | _=>none
theorem mO {n:Int} (h:bw n):((nN n:Nat):Int)=n:=Int.toNat_of_nonneg h
def YC (E:Env) (T:Nat) (px:A) (y:Operand) (py:A) (h:H) (K:A→H→Fp→Option β):Option β:=match py with
 | .v (.int _ n)=>match cq E.dJ T with
  | some ⟨.array len el,_,_,_,_,_,_⟩=>match cq E.dJ el with
   | some e=>match px with
    | .ptr q off=>match Yt y with
     | some i=>gd (neq (nN n) i) (bif Nat.blt i len then gd (bw n) (K (.ptr q (off+i*e.size)) h .no) else none)
     | none=>Wy len 0 n (fun i=>K (.ptr q (off+i*e.size)) h .no)
    | .tp X π=>gd (bw n) (gd (bD (nN n) len) (K (.tp X (π++[.ai (nN n) len e.size])) h .no))
    | .dp t x=>gd (bw n) (gd (bD (nN n) len) (bif Nat.blt 0 e.size then (match nh [.ai (nN n) len e.size] t x with
     | some s=>K (.dp s.t s.x) h .no
     | none=>none) else none))
    | _=>none
   | none=>none
  | some ⟨.slice el,_,_,_,_,_,_⟩=>match cq E.dJ el with
   | some e=>bif Nat.blt 0 e.size then (match px with
    | .tl t _ l=>bif Nat.beq t.size e.size then gd (bw n) (gd (bD (nN n) (len l)) (K (.dp t (nth t.cF l (nN n))) h .no)) else none
    | .tw X z=>bif Nat.beq z e.size then iZ h X (fun t l=>bif Nat.beq z t.size then gd (bw n) (gd (bD (nN n) (len l)) (K (.tp X [.ix (nN n) z]) h (.rd [iz X]))) else none) else none
    | .ts X z off m=>bif Nat.beq z e.size then gd (bw n) (gd (bD (nN n) m) (K (.tp X [.ix (aK off (nN n)) z]) h .no)) else none
    | .tf X z off m=>bif Nat.beq z e.size then gd (bw n) (gd (bD (nN n) m) (K (.tp X [.ix (aK off (nN n)) z]) h .no)) else none
    | .aa X π m z=>bif Nat.beq z e.size then gd (bw n) (gd (bD (nN n) m) (K (.tp X (π++[.ai (nN n) m z])) h .no)) else none
    | .sl q off z m=>bif Nat.beq z e.size then Wy m 0 n (fun i=>K (.ptr q (off+i*z)) h .no) else none
    | _=>none) else none
   | none=>none
  | _=>none
 | _=>none
theorem HW {t:Ty} {l:List t.T} {i:Nat} (hi:i<l.length) {j:Nat} {c:D} (hj:(dw t (nth t.cF l i))[j]?=some c):(l.map (dw t)).flatten[i*t.size+j]?=some c:=by
 have e:l=l.take i++nth t.cF l i::l.drop (i+1):=by
  rw [show nth t.cF l i=l[i] by simp [nth,zA,zD hi],List.getElem_cons_drop,zP]
 have hl:((l.take i).flatMap (dw t)).length=i*t.size:=by
  have:∀m:List t.T,(m.flatMap (dw t)).length=m.length*t.size:=fun m=>by
   induction m with
   | nil=>simp
   | cons a m ih=>rw [List.flatMap_cons,zY,ih,eI,zR,Nat.succ_mul,Nat.add_comm]
  rw [this,List.length_take,Nat.min_eq_left (Nat.le_of_lt hi)]
 rw [kI]
 conv=>lhs;rw [e]
 rw [List.flatMap_append,List.flatMap_cons,zJ (by omega),hl,show i*t.size+j-i*t.size=j by omega,zK (zB.1 hj).1]
 exact hj
theorem L2 (hE:bR P E) {T:Nat} {x y:Operand} (ho:o.op = .indexAddr T x y) (hr:YC E T (ρ x) y (ρ y) h K=some r):Out P o ρ h K r:=by
 have hd:∀c,o.op≠.defer c:=by rw [ho];intro c e;cases e
 unfold YC at hr
 split at hr
 ·rename_i k n hy
  split at hr
  ·rename_i len el _ _ _ _ _ _ ht
   split at hr
   ·rename_i e he
    have m0:∀{v:A},0≤n∧n<len→(∀g u,V g (ρ x) u→∃b off,u = .pointer (some ⟨b,off,none⟩)∧V g v (.pointer (some ⟨b,off+n.toNat*e.size,none⟩)))→∀S2,eM P o ρ S2 S2 v:=fun hn hv S2=>
     rP ho (hE.dJ _ _ ht).u (hE.dJ _ _ he).ti.size hy hn hv
    split at hr
    ·rename_i q off hx
     have ptr:∀i:Nat,n.toNat=i→∀g u,V g (ρ x) u→∃b Sq,u = .pointer (some ⟨b,Sq,none⟩)∧V g (.ptr q (off+i*e.size)) (.pointer (some ⟨b,Sq+n.toNat*e.size,none⟩)):=fun i hi g u hu=>by
      rw [hx] at hu
      cases hu with
      | ptr _ _ b s hb=>exact ⟨b,off,rfl,by rw [hi];exact .ptr _ _ b s hb⟩
     split at hr
     ·rename_i i _
      obtain ⟨h1,hr⟩:=bq hr
      obtain ⟨h2,hr⟩:=ah hr
      obtain ⟨h3,hr⟩:=bq hr
      have h4:=mO h3
      have h1:nN n=i:=h1
      have h5:=ba h2
      exact .pure hr (m0 ⟨h3,by omega⟩ (ptr i h1)) hd
     ·obtain ⟨i,h1,h2,h3,h4⟩:=wW _ _ hr
      exact .pure h1 (m0 ⟨by omega,by omega⟩ (ptr i (by omega))) hd
    ·rename_i X π hx
     obtain ⟨h3,hr⟩:=bq hr
     obtain ⟨h4,hr⟩:=bq hr
     have h5:=mO h3
     have h4:nN n<len:=h4
     refine .pure hr (m0 ⟨h3,by omega⟩ (fun g u hu=>?_)) hd
     rw [hx] at hu
     cases hu with
     | tp _ _ b s hb hk=>
      refine ⟨b,du π,rfl,?_⟩
      have:=V.tp (g:=g) X (π++[.ai (nN n) len e.size]) b s hb ((lh π [.ai (nN n) len e.size]).2 ⟨hk,show nN n<len∧True from ⟨h4,trivial⟩⟩)
      rw [jK] at this
      exact this
    ·rename_i t z hx
     obtain ⟨h3,hr⟩:=bq hr
     obtain ⟨h4,hr⟩:=bq hr
     obtain ⟨_,hr⟩:=ah hr
     have h5:=mO h3
     have h4:nN n<len:=h4
     split at hr
     ·rename_i sg YR
      refine .pure hr (m0 ⟨h3,by omega⟩ (fun g u hu=>?_)) hd
      rw [hx] at hu
      cases hu with
      | dp _ _ b off f hm=>
       obtain ⟨a,c,q1,q2⟩:=lV _ t z 0 sg YR ⟨h4,trivial⟩
       have q2:a.length=nN n*e.size:=q2
       refine ⟨b,off,rfl,.dp sg.t sg.x b _ (fun j=>f (nN n*e.size+j)) (fun j d hj=>?_)⟩
       have:=hm (nN n*e.size+j) d (by
        rw [q1,zJ (by omega),show nN n*e.size+j-a.length=j by omega,zK (zB.1 hj).1];exact hj)
       rw [Nat.add_assoc]
       exact this
     ·cases hr
    ·cases hr
   ·cases hr
  ·rename_i el _ _ _ _ _ _ ht
   split at hr
   ·rename_i e he
    obtain ⟨h0,hr⟩:=ah hr
    have h0:=ba h0
    have m0:∀{v:A} {S2:Hp},(∀g w u,Inv g S2 w→V g (ρ x) u→∃b off m cap,u = .slice (some ⟨b,off,none⟩) m cap∧(0≤n∧n<m)∧V g v (.pointer (some ⟨b,off+n.toNat*e.size,none⟩)))→eM P o ρ S2 S2 v:=fun hv=>
     tu ho (hE.dJ _ _ ht).u (hE.dJ _ _ he).ti.size hy hv
    split at hr
    ·rename_i t f l hx
     obtain ⟨h1,hr⟩:=ah hr
     obtain ⟨h3,hr⟩:=bq hr
     obtain ⟨h4,hr⟩:=bq hr
     have h5:=mO h3
     have h4:nN n<l.length:=h4
     refine .pure hr (fun S2=>m0 (fun g w u hI hu=>?_)) hd
     rw [hx] at hu
     cases hu with
     | tl _ _ _ _ hv=>
      rw [←beq_eq h1] at *
      generalize pT:List.map (dw t) l=es at hv
      have oY:es.length=l.length:=by rw [←pT,zH]
      cases hv with
      | uQ=>simp at oY;omega
      | sl _ _ _ a cap vs hz hc hf hn oV hl hm FY=>
       obtain ⟨p,rfl⟩:∃p,a=some p:=by
        cases a with
        | none=>have:=hn rfl;omega
        | some p=>exact ⟨p,rfl⟩
       refine ⟨p.1,p.2,es.length,cap,rfl,⟨h3,by omega⟩,.dp t _ p.1 _ (fun j=>vs.getD (nN n*t.size+j) undef) (fun j c hj=>?_)⟩
       have Me:=HW (t:=t) (l:=l) h4 hj
       rw [pT] at Me
       have fe:=(zB.1 Me).1
       have yY:vs[nN n*t.size+j]?=some (vs.getD (nN n*t.size+j) undef):=by
        rw [zA,zD (by rw [←hl];exact fe)];rfl
       refine ⟨?_,FY _ c _ Me yY⟩
       have:=hm p _ _ rfl yY
       rw [Nat.add_assoc];exact this
    ·rename_i X z hx
     obtain ⟨h1,hr⟩:=ah hr
     obtain rfl:=beq_eq h1
     obtain ⟨t,l,hr,hX,eN⟩:=eF hr
     obtain ⟨h2,hr⟩:=ah hr
     obtain ⟨h3,hr⟩:=bq hr
     obtain ⟨h4,hr⟩:=bq hr
     have h5:=mO h3
     have h4:nN n<l.length:=h4
     have h2:=beq_eq h2
     refine .read _ hr (fun S2 hA=>m0 (fun g w u hI hu=>?_)) hd
     have dU:=(hA _ (bC hX (.head _))).1.trans eN
     rw [hx] at hu
     cases hu with
     | sa _ _ ad bF=>
      rcases hI.cells _ _ dU with ⟨_,k2⟩ | ⟨b,tt,k1,_⟩
      ·have:=bg t l
       rw [k2] at this
       have:0<l.length*t.size:=Nat.mul_pos (by omega) (by omega)
       simp at *;omega
      ·rw [k1] at bF;cases bF
     | tw _ _ m b cap tt bF hn oV hp d mE=>
      rcases hI.cells _ _ dU with ⟨k1,_⟩ | ⟨b',Gi,k1,_⟩
      ·rw [k1] at bF;cases bF
      have Ml:=bF
      rw [k1] at bF
      simp only [zI,zU] at bF
      obtain ⟨rfl,hlen,_⟩:=bF
      rw [bg,h2] at hlen
      have hm:l.length=m:=Nat.eq_of_mul_eq_mul_right (by omega) hlen
      refine ⟨b',d,m,cap,rfl,⟨h3,by omega⟩,?_⟩
      obtain rfl:=mE (by omega)
      have:=V.tp (g:=g) X [.ix (nN n) e.size] b' _ Ml ⟨zW _ (by omega),trivial⟩
      rw [show du [.ix (nN n) e.size]=nN n*e.size from rfl] at this
      rw [Nat.zero_add];exact this
    ·rename_i X z off m hx
     obtain ⟨h1,hr⟩:=ah hr
     obtain rfl:=beq_eq h1
     obtain ⟨h3,hr⟩:=bq hr
     obtain ⟨h4,hr⟩:=bq hr
     have h5:=mO h3
     have h4:nN n<m:=h4
     refine .pure hr (fun S2=>m0 (fun g w u hI hu=>?_)) hd
     rw [hx] at hu
     cases hu with
     | sc _ _ _ _ _ _ hn=>omega
     | ts _ _ _ _ b cap s bF hn oV hs hp d mE=>
      refine ⟨b,d,m,cap,rfl,⟨h3,by omega⟩,?_⟩
      obtain rfl:=mE (by omega)
      have:=V.tp (g:=g) X [.ix (aK off (nN n)) e.size] b _ bF ⟨Nat.le_trans (zW _ (show aK off (nN n)+1≤off+m by unfold aK;omega)) hs,trivial⟩
      rw [show du [.ix (aK off (nN n)) e.size]=(off+nN n)*e.size from rfl,Nat.add_mul] at this
      exact this
    ·rename_i X z off m hx
     obtain ⟨h1,hr⟩:=ah hr
     obtain rfl:=beq_eq h1
     obtain ⟨h3,hr⟩:=bq hr
     obtain ⟨h4,hr⟩:=bq hr
     have h5:=mO h3
     have h4:nN n<m:=h4
     refine .pure hr (fun S2=>m0 (fun g w u hI hu=>?_)) hd
     rw [hx] at hu
     cases hu with
     | Ct _ _ _ _ _ _ hn=>omega
     | tf _ _ _ _ b s bF oV hs d mE=>
      refine ⟨b,d,m,m,rfl,⟨h3,by omega⟩,?_⟩
      obtain rfl:=mE (by omega)
      have:=V.tp (g:=g) X [.ix (aK off (nN n)) e.size] b _ bF ⟨Nat.le_trans (zW _ (show aK off (nN n)+1≤off+m by unfold aK;omega)) hs,trivial⟩
      rw [show du [.ix (aK off (nN n)) e.size]=(off+nN n)*e.size from rfl,Nat.add_mul] at this
      exact this
    ·rename_i X π m z hx
     obtain ⟨h1,hr⟩:=ah hr
     obtain rfl:=beq_eq h1
     obtain ⟨h3,hr⟩:=bq hr
     obtain ⟨h4,hr⟩:=bq hr
     have h5:=mO h3
     have h4:nN n<m:=h4
     refine .pure hr (fun S2=>m0 (fun g w u hI hu=>?_)) hd
     rw [hx] at hu
     cases hu with
     | aa _ _ _ _ b cap s bF hk hn oV=>
      refine ⟨b,du π,m,cap,rfl,⟨h3,by omega⟩,?_⟩
      have:=V.tp (g:=g) X (π++[.ai (nN n) m e.size]) b s bF ((lh π [.ai (nN n) m e.size]).2 ⟨hk,show nN n<m∧True from ⟨h4,trivial⟩⟩)
      rw [jK] at this
      exact this
    ·rename_i q off z m hx
     obtain ⟨h1,hr⟩:=ah hr
     obtain rfl:=beq_eq h1
     obtain ⟨i,k1,k2,k3,k4⟩:=wW _ _ hr
     refine .pure k1 (fun S2=>m0 (fun g w u hI hu=>?_)) hd
     rw [hx] at hu
     cases hu with
     | sl _ _ _ _ b cap s bF hn oV hs=>
      refine ⟨b,off,m,cap,rfl,⟨by omega,by omega⟩,?_⟩
      rw [show n.toNat=i by omega]
      exact .ptr _ _ b s bF
    ·cases hr
   ·cases hr
  ·cases hr
 ·cases hr
end
end
section
open Go.RowKit
section
variable {P:Program} {E:Env} {o:Oper} {ρ:Operand→A} {h:H} {β:Type} {K:A→H→Fp→Option β} {r:β}
def LY (E:Env) (T:Nat) (px:A) (h:H) (K:A→H→Fp→Option β):Option β:=match cq E.dJ T with
 | some e=>match px with
  | .ptr q off=>bif Nat.blt q 16777216 then (match h.t.get q with
   | some (.cells cs)=>bif jt e.d then (bif Nat.ble (off+e.size) cs.length then K (.agg ((cs.drop off).take e.size)) h (.rd [dk q]) else none) else (match cs[off]? with
    | some c=>Cw c (fun v=>K v h (.rd [dk q]))
    | none=>none)
   | _=>none) else none
  | .tp X π=>qA h X π (fun s=>bif Nat.beq s.t.size e.size then (bif jt e.d then K (.agg (aA s.t s.x)) h (.rd [iz X]) else (match aA s.t s.x with
   | [c]=>Cw c (fun v=>K v h (.rd [iz X]))
   | _=>none)) else none)
  | .dp t x=>bif t.data && Nat.beq t.size e.size then (bif jt e.d then K (.agg (aA t x)) h .no else (match aA t x with
   | [c]=>Cw c (fun v=>K v h .no)
   | _=>none)) else none
  | _=>none
 | none=>none
theorem DH (hE:bR P E) {T:Nat} {px:A} (hr:LY E T px h K=some r):∃v l,K v h (.rd l)=some r∧∀S2,Agree (.rd l) (hp h) S2→∀(o:Oper) (ρ:Operand→A) (x:Operand),o.op = .load T x→ρ x=px→FA P o ρ S2 v:=by
 have sp:∀{c:A} {l:List Nat},Cw c (fun v=>K v h (.rd l))=some r→(∀S2,Agree (.rd l) (hp h) S2→∀(o:Oper) (ρ:Operand→A) (x:Operand),o.op = .load T x→ρ x=px→FA P o ρ S2 c) →
   ∃v l,K v h (.rd l)=some r∧∀S2,Agree (.rd l) (hp h) S2→∀(o:Oper) (ρ:Operand→A) (x:Operand),o.op = .load T x→ρ x=px→FA P o ρ S2 v:=fun h1 h2=>by
  obtain ⟨v,k1,k2⟩:=wX h1
  exact ⟨v,_,k1,fun S2 hA o ρ x ho hx g w a hI hv=>let ⟨u,q1,q2⟩:=h2 S2 hA o ρ x ho hx g w a hI hv;⟨u,q1,k2 g u q2⟩⟩
 unfold LY at hr
 split at hr
 ·rename_i e ht
  have hk:=hE.dJ _ _ ht
  split at hr
  ·rename_i q off
   obtain ⟨hq,hr⟩:=ah hr
   have hq:=ba hq
   split at hr
   ·rename_i cs hg
    have eN:(hp h).ob q=some (.cells cs):=by rw [jM hq];unfold fh;rw [hg];rfl
    cases ha:jt e.d with
    | true=>
     rw [ha] at hr;simp only [cond_true] at hr
     obtain ⟨h1,hr⟩:=ah hr
     exact ⟨_,_,hr,fun S2 hA o ρ x ho hx=>nO ho hk.u ha hk.ti.size (by rw [hx];rfl) ((hA q (aB hq (.head _))).1.trans eN) (Nat.le_of_ble_eq_true h1)⟩
    | false=>
     rw [ha] at hr;simp only [cond_false] at hr
     split at hr
     ·rename_i c hc
      exact sp hr (fun S2 hA o ρ x ho hx=>vh ho hk.u ha (by rw [hx];rfl) ((hA q (aB hq (.head _))).1.trans eN) hc)
     ·cases hr
   ·cases hr
  ·rename_i X π
   obtain ⟨sg,h1,hX,h2⟩:=sq hr
   obtain ⟨h3,h1⟩:=ah h1
   have h3:=beq_eq h3
   have bl:∀{S2:Hp} {v:A} {o:Oper} {ρ:Operand→A} {x:Operand},o.op = .load T x→ρ x = .tp X π→Agree (.rd [iz X]) (hp h) S2→(∀a c,S2.ob X.id=some (.cells (a++(aA sg.t sg.x++c)))→a.length=du π→FA P o ρ S2 v)→FA P o ρ S2 v:=fun {S2 v o ρ x} ho hx hA k=>.bl fun g w a hI hv=>by
    have B1:=hv x (by simp [ho,Op.operands])
    rw [hx] at B1
    have ha:=hA _ (bC hX (.head _))
    obtain ⟨a,c,q1,q2⟩:=h2 g _ w _ hI ha.1 ha.2 B1
    exact k a c q1 q2
   have wI:∀{ρ:Operand→A} {x:Operand},ρ x = .tp X π→Pl (ρ x)=some (X.id,du π):=fun hx=>by rw [hx];rfl
   cases ha:jt e.d with
   | true=>
    rw [ha] at h1;simp only [cond_true] at h1
    refine ⟨_,_,h1,fun S2 hA o ρ x ho hx=>bl ho hx hA fun a c q1 q2=>?_⟩
    have:=nO (P:=P) ho hk.u ha hk.ti.size (wI hx) q1 (by simp only [zY,bG];omega)
    rwa [←q2,List.drop_left,←h3,←bG sg.t sg.x,List.take_left] at this
   | false=>
    rw [ha] at h1;simp only [cond_false] at h1
    split at h1
    ·rename_i c0 KL
     refine sp h1 (fun S2 hA o ρ x ho hx=>bl ho hx hA fun a c q1 q2=>?_)
     refine vh ho hk.u ha (wI hx) q1 ?_
     rw [←q2,zJ (Nat.le_refl _),Nat.sub_self,KL];rfl
    ·cases h1
  ·rename_i t y
   obtain ⟨h1,hr⟩:=ah hr
   simp only [zC] at h1
   have h3:=beq_eq h1.2
   cases ha:jt e.d with
   | true=>
    rw [ha] at hr;simp only [cond_true] at hr
    exact ⟨_,[],hr,fun S2 _ o ρ x ho hx=>pg ho hk.u (by rw [h3];exact hk.ti.size) hx h1.1 (by rw [ha,if_pos rfl])⟩
   | false=>
    rw [ha] at hr;simp only [cond_false] at hr
    split at hr
    ·rename_i c0 KL
     exact sp (l:=[]) hr (fun S2 _ o ρ x ho hx=>pg ho hk.u (by rw [h3];exact hk.ti.size) hx h1.1 (by rw [ha,if_neg (by simp)];exact KL))
    ·cases hr
  ·cases hr
 ·cases hr
theorem LX (hE:bR P E) {T:Nat} {x:Operand} (ho:o.op = .load T x) (hr:LY E T (ρ x) h K=some r):Out P o ρ h K r:=by
 have hd:∀c,o.op≠.defer c:=by rw [ho];intro c e;cases e
 obtain ⟨v,l,k1,k2⟩:=DH hE hr
 exact .read _ k1 (fun S2 hA=>.value (k2 S2 hA o ρ x ho rfl)) hd
def rZ (P:Program) (o:Oper) (S S':Hp) (pv:A) (g:G) (w:World) (a:Act):Prop:=
 ∀(next:Act→World→Prop) (Q:Exit→Act→World→Prop),(∀v g' w',V g' pv v→Inv g' S' w'→Ext S g w S' g' w'→next (a.put o.dst v) w')→o.wp P a w next Q
theorem rZ.pre {S S1 S':Hp} {pv:A} {g g1:G} {w:World} {a:Act} (k:rZ P o S1 S' pv g1 w a) (e:Ext S g w S1 g1 w):rZ P o S S' pv g w a:=fun next Q K=>k next Q (fun v g' w' h1 h2 h3=>K v g' w' h1 h2 (e.trans h3))
theorem Cu {S:Hp} {T:TypeId} {x y:Operand} {p off n:Nat} {cs ps:List A} {g:G} {w:World} {a:Act} (ho:o.op = .store T x y) (hs:eC P T n) (hI:Inv g S w) (hx:∃b s,g.bl p=some (some b,s)∧a.eval x = .pointer (some ⟨b,off,none⟩)) (hy:Vs g ps (a.eval y).cells.toList) (hl:ps.length=n)
  (hp:S.ob p=some (.cells cs)) (hn:off+n≤cs.length):rZ P o S (S.set p (.cells (put cs off ps))) .cD g w a:=by
 intro next Q K
 obtain ⟨b,s,h,hu⟩:=hx
 obtain ⟨cur,ty,k2,oC,h3,h4⟩:=hI.store (off:=off) hp h hy (by omega)
 unfold Oper.wp
 have nW:(a.eval y).cells.size=n:=by have:=hy.1;simp at this;omega
 have rC:=run_storeCells_at P b off ty (a.eval y).cells.toList 0 cur w k2 (by simpa using oC) hy.one
 simp only [execOp,ho,hu,Instr.storeAt,Instr.sureAddr,pure_bind,storeVar,Sem.run_bind,hs.run w,Result.andThen_ok,nW,ne_eq,not_true_eq_false,if_false]
 simp only [Nat.add_zero] at rC
 simp only [rC,Result.andThen_ok,Sem.run_pure]
 exact K _ g _ (.cD _) h3 h4
theorem GS {T:Fp} {us:List Up} {S' S2:Hp} (hT:∀u∈us,touch T u.id=true):ig T S' (app us S2)=ig T S' S2:=by
 refine Hp.ext' (fun i=>?_) (fun i=>?_)
 ·show (if touch T i=true then _ else _)=(if touch T i=true then _ else _)
  split
  ·rfl
  ·rename_i hi;exact (cV us S2 i (fun u hu e=>hi (e▸hT u hu))).1
 ·show (if touch T i=true then _ else _)↔(if touch T i=true then _ else _)
  split
  ·exact Iff.rfl
  ·rename_i hi;exact (cV us S2 i (fun u hu e=>hi (e▸hT u hu))).2
def X_ (E:Env) (T:Nat) (px py:A) (h:H) (K:A→H→Fp→Option β):Option β:=match cq E.dJ T,py.cells with
 | some e,some ps=>match px with
  | .ptr q off=>bif Nat.blt q 16777216 then (match h.t.get q with
   | some (.cells cs)=>bif Nat.beq ps.length e.size && Nat.ble (off+e.size) cs.length && !(vD h (dk q)) then eP h.t q (some (.cells (put cs off ps))) (fun t1=>K .cD { h with t:=t1 } (.wr [dk q])) else none
   | _=>none) else none
  | .tp X π=>match plT h X π with
   | some u=>bif Nat.beq u.size e.size then (Mt u ps h (fun tj h1 T1=>match oB u tj with
     | some y=>pD h1 X π u y (fun h2=>K .cD h2 (.wr (iz X::T1)))
     | none=>none)) else none
   | none=>none
  | _=>none
 | _,_=>none
theorem oI {T U:List Nat} {w:Bool} {s:List Nat} {i:Nat} (hU:∀j∈U,j∈T) (k:touch ⟨false,T,w,s⟩ i=false):touch ⟨false,U,w,s⟩ i=false:=by
 cases hx:touch ⟨false,U,w,s⟩ i with
 | false=>rfl
 | true=>rw [eO hU hx] at k;cases k
theorem Lc (hE:bR P E) {T:Nat} {x y:Operand} (ho:o.op = .store T x y) (hr:X_ E T (ρ x) (ρ y) h K=some r):Out P o ρ h K r:=by
 have hd:∀c,o.op≠.defer c:=by rw [ho];intro c e;cases e
 unfold X_ at hr
 split at hr
 ·rename_i e ps ht rU
  have hk:=hE.dJ _ _ ht
  split at hr
  ·rename_i q off hx
   obtain ⟨hq,hr⟩:=ah hr
   have hq:=ba hq
   split at hr
   ·rename_i cs hg
    have eN:(hp h).ob q=some (.cells cs):=by rw [jM hq];unfold fh;rw [hg];rfl
    obtain ⟨h1,hr⟩:=ah hr
    simp only [zC] at h1
    obtain ⟨_,t1,k1,k2⟩:=bm hr
    exact ⟨_,_,_,k1,.of [.set q (.cells (put cs off ps))] (oX (x:=.cells (put cs off ps)) hq k2) rfl (fun u hu=>by rcases zF.1 hu with rfl;exact aB (o:=q) hq (.head _))
     (fun S2 hA=>AQ ho hk.ti.size (by rw [hx];rfl) rU (beq_eq h1.1.1) ((hA q (aB hq (.head _))).1.trans eN) (Nat.le_of_ble_eq_true h1.1.2)) hd⟩
   ·cases hr
  ·rename_i X π hx
   split at hr
   ·rename_i u hu
    obtain ⟨L6,hr⟩:=ah hr
    obtain ⟨tj,h1,T1,hr,us,c1,c2,c3⟩:=HZ hr
    split at hr
    ·rename_i y' hy
     obtain ⟨h2,k1,hX,k2,k3⟩:=Gq hr
     have B3:∀u∈us,touch (Fp.wr (iz X::T1)) u.id=true:=fun u hu=>eO (fun i hi=>.tail _ hi) (c2 u hu)
     have out:∀i,touch (Fp.wr (iz X::T1)) i=false→(hp h2).ob i=(hp h).ob i∧((hp h2).fr i↔(hp h).fr i):=fun i hi=>by
      have e1:=k2 i (oI (T:=iz X::T1) (fun j hj=>by rcases zF.1 hj with rfl;exact .head _) hi)
      have e2:=cV us (hp h) i (fun u hu e=>by have:=B3 u hu;rw [←e] at this;rw [show touch (Fp.wr (iz X::T1)) i=false from hi] at this;cases this)
      rw [←c1] at e2
      exact ⟨e1.1.trans e2.1,e1.2.trans e2.2⟩
     refine ⟨_,_,_,k1,⟨out,fun i hi=>out i (r_ hi),fun S2 hA=>?_⟩⟩
     ·refine eM.Kj (fun g w a next Q hI hv K'=>?_) hd
      have uG:=hv x (by simp [ho,Op.operands])
      have YJ:=(hv y (by simp [ho,Op.operands])).cells rU
      obtain ⟨g1,q1,q2,q3⟩:=c3 g S2 w _ hI (hA.mono fun i hi=>.tail _ hi) YJ
      obtain ⟨z1,z2⟩:=iW (g:=g1) u tj y' hy
      have HM:Agree (Fp.wr (iz X::T1)) (hp h1) (app us S2):=by rw [c1];exact Agree.app us hA
      rw [hx] at uG
      have SS:=uG.mono q2.le
      obtain ⟨cs,w1,w2,w3⟩:=k3 (iz X::T1) (.head _) g1 _ w _ q1 HM SS
      have wI:∃b s,g1.bl X.id=some (some b,s)∧a.eval x = .pointer (some ⟨b,du π,none⟩):=SS.pl rfl
      have nW:=beq_eq L6
      have st:=Cu (P:=P) ho hk.ti.size q1 wI (z2 _ q3) (by rw [bG,nW]) w1 (by rw [←nW];exact w2)
      rw [←w3,GS B3] at st
      exact (st.pre q2) next Q K'
    ·cases hr
   ·cases hr
  ·cases hr
 ·cases hr
def mD (x:f_) (h:H) (k:Nat→H→Option β):Option β:=eP h.t h.aS (some x) (fun t1=>k h.aS { h with t:=t1,aS:=h.aS+1 })
theorem fF {x:f_} {k:Nat→H→Option β} (hr:mD x h k=some r):∃h',k h.aS h'=some r∧h.aS<16777216∧(hp h).fr h.aS∧hp h'=app [.new h.aS x.low] (hp h):=by
 obtain ⟨hq,t1,k1,k2⟩:=bm hr
 have hq:h.aS<16777216:=Bh hq
 refine ⟨_,k1,hq,?_,D7 hq k2⟩
 have e:(if h.aS<cE then h.aS≤h.aS else fK h.rg h.aS)=(h.aS≤h.aS):=if_pos hq
 show (if h.aS<cE then h.aS≤h.aS else fK h.rg h.aS)
 rw [e];exact Nat.le_refl _
theorem m6 {S:Hp} {T:TypeId} {i:TypeInfo} {z:Value} {q:Nat} {zs:List A} (ho:o.op = .alloc T) (hi:P.info? T=some i) (hz:i.zero=some z) (SO:Zs zs z) (hf:S.fr q) :
  eM P o ρ S (S.new q (.cells zs)) (.ptr q 0):=by
 intro g w a next Q hI hv K
 have hzs:=SO g
 obtain ⟨h1,h2⟩:=hI.lg hf (cs:=zs) (vs:=z.cells) T (by have:=hzs.1;simp at this ⊢;omega) hzs.all
 unfold Oper.wp
 simp only [execOp,ho,Instr.alloc,Sem.run_bind,zeroValue,typeInfo,run_program,Result.andThen_ok,hi,hz,Sem.run_pure,newVar,newRow,run_newObj]
 exact K _ _ _ (.ptr _ _ w.heap.size _ b_) h1 h2
theorem V.C7 {g:G} {q:Nat} {v:Value} (hv:V g (.ptr q 0) v):V g (.tp (.loc q) []) v:=by
 cases hv with
 | ptr _ _ b s hb=>exact .tp (.loc q) [] b s hb trivial
def M6 (E:Env) (T:Nat) (h:H) (K:A→H→Fp→Option β):Option β:=match cq E.dJ T with
 | some e=>bif e.lt then (match e.t with
  | some t=>mD (.one t t.cF) h (fun q h'=>K (.tp (.loc q) []) h' (.wr [dk q]))
  | none=>none) else mD (.cells (jD e.zero)) h (fun q h'=>K (.ptr q 0) h' (.wr [dk q]))
 | none=>none
theorem Is (hE:bR P E) {T:Nat} (ho:o.op = .alloc T) (hr:M6 E T h K=some r):Out P o ρ h K r:=by
 have hd:∀c,o.op≠.defer c:=by rw [ho];intro c e;cases e
 unfold M6 at hr
 split at hr
 ·rename_i e ht
  have hk:=hE.dJ _ _ ht
  obtain ⟨i,t1,t2,t3,t4,t5,t6⟩:=hk.ti
  cases hl:e.lt with
  | true=>
   rw [hl] at hr;simp only [cond_true] at hr
   split at hr
   ·rename_i t wH
    obtain ⟨h',k1,hq,hf,hh⟩:=fF hr
    refine ⟨_,_,_,k1,Step.Ci (.of _ hh rfl (fun u hu=>by rcases zF.1 hu with rfl;exact aB (o:=h.aS) hq (.head _)) (fun S2 hA=>m6 ho t1 t2 (hk.tz t wH) ((hA _ (aB hq (.head _))).2.2 hf)) hd) (fun g v hv=>hv.C7)⟩
   ·cases hr
  | false=>
   rw [hl] at hr;simp only [cond_false] at hr
   obtain ⟨h',k1,hq,hf,hh⟩:=fF hr
   exact ⟨_,_,_,k1,.of _ hh rfl (fun u hu=>by rcases zF.1 hu with rfl;exact aB (o:=h.aS) hq (.head _)) (fun S2 hA=>m6 ho t1 t2 (Cd t6) ((hA _ (aB hq (.head _))).2.2 hf)) hd⟩
 ·cases hr
theorem vn {S:Hp} {T:TypeId} {x:Operand} {ps qs:List A} {q:Nat} (ho:o.op = .box T x) (hx:(ρ x).cells=some ps) (hq:∀g vs,Vs g ps vs→Vs g qs vs) (hf:S.fr q):eM P o ρ S (S.new q (.cells qs)) (.ptr q 0):=by
 intro g w a next Q hI hv K
 have e2:=hq _ _ ((hv x (by simp [ho,Op.operands])).cells hx)
 obtain ⟨h1,h2⟩:=hI.lg hf (cs:=qs) (vs:=(a.eval x).cells) T (by have:=e2.1;simp at this ⊢;omega) e2.all
 unfold Oper.wp
 simp only [execOp,ho,Instr.box,Sem.run_bind,Result.andThen_ok,Sem.run_pure,newVar,newRow,run_newObj]
 exact K _ _ _ (.ptr _ _ w.heap.size _ b_) h1 h2
def Ff (E:Env) (T:Nat) (px:A) (h:H) (K:A→H→Fp→Option β):Option β:=match cq E.dJ T,px.cells with
 | some e,some ps=>bif e.lt then (match e.t with
  | some t=>match oB t ps with
   | some x=>mD (.one t x) h (fun q h'=>K (.tp (.loc q) []) h' (.wr [dk q]))
   | none=>none
  | none=>none) else mD (.cells ps) h (fun q h'=>K (.ptr q 0) h' (.wr [dk q]))
 | _,_=>none
theorem E_ {T:Nat} {x:Operand} (ho:o.op = .box T x) (hr:Ff E T (ρ x) h K=some r):Out P o ρ h K r:=by
 have hd:∀c,o.op≠.defer c:=by rw [ho];intro c e;cases e
 unfold Ff at hr
 split at hr
 ·rename_i e ps ht rU
  cases hl:e.lt with
  | true=>
   rw [hl] at hr;simp only [cond_true] at hr
   split at hr
   ·rename_i t wH
    split at hr
    ·rename_i y hy
     obtain ⟨h',k1,hq,hf,hh⟩:=fF hr
     exact ⟨_,_,_,k1,Step.Ci (.of _ hh rfl (fun u hu=>by rcases zF.1 hu with rfl;exact aB (o:=h.aS) hq (.head _)) (fun S2 hA=>vn ho rU (fun g vs hv=>(iW t ps y hy).2 vs hv) ((hA _ (aB hq (.head _))).2.2 hf)) hd) (fun g v hv=>hv.C7)⟩
    ·cases hr
   ·cases hr
  | false=>
   rw [hl] at hr;simp only [cond_false] at hr
   obtain ⟨h',k1,hq,hf,hh⟩:=fF hr
   exact ⟨_,_,_,k1,.of _ hh rfl (fun u hu=>by rcases zF.1 hu with rfl;exact aB (o:=h.aS) hq (.head _)) (fun S2 hA=>vn ho rU (fun g vs hv=>hv) ((hA _ (aB hq (.head _))).2.2 hf)) hd⟩
 ·cases hr
end
end
section
open Go.RowKit
section
variable {P:Program} {E:Env} {o:Oper} {ρ:Operand→A} {h:H} {β:Type} {K:A→H→Fp→Option β} {r:β}
def M0 (E:Env) (T:Nat) (ρ:Operand→A) (ps:List (Nat×Operand)) (h:H) (K:A→H→Fp→Option β):Option β:=match cq E.dJ T with
 | some e=>match e.d with
  | .struct _=>match q7 ρ (fun i=>e.pl.toArray[i]?) (jD e.zero) ps with
   | some cs=>K (.agg cs) h .no
   | none=>none
  | .array _ el=>match cq E.dJ el with
   | some e'=>match q7 ρ (fun i=>some (i*e'.size,e'.size)) (jD e.zero) ps with
    | some cs=>K (.agg cs) h .no
    | none=>none
   | none=>none
  | _=>none
 | none=>none
theorem Ik (hE:bR P E) {T:Nat} {ps:Array (Nat×Operand)} (ho:o.op = .build T ps) (hr:M0 E T ρ ps.toList h K=some r):Out P o ρ h K r:=by
 have hd:∀c,o.op≠.defer c:=by rw [ho];intro c e;cases e
 unfold M0 at hr
 split at hr
 ·rename_i e ht
  have hk:=hE.dJ _ _ ht
  split at hr
  ·rename_i fs B5
   split at hr
   ·rename_i cs hf
    obtain ⟨i,t1,t2,t3,t4,t5,t6⟩:=hk.ti
    exact .pure hr (fun S2=>AZ ho (by rw [hk.u,B5]) t1 t2 t6 (hk.pl fs B5) hf) hd
   ·cases hr
  ·rename_i n el B5
   split at hr
   ·rename_i e' Zo
    split at hr
    ·rename_i cs hf
     exact .pure hr (fun S2=>rQ ho (by rw [hk.u,B5]) hk.ti (hE.dJ _ _ Zo).ti.size hf) hd
    ·cases hr
   ·cases hr
  ·cases hr
 ·cases hr
def EB (f:List A→H→Option (List A×H×List Nat)) (z:Nat):Nat→List A→H→Option (List A×H×List Nat)
 | 0,cs,h=>some (cs,h,[])
 | n+1,cs,h=>match f (cs.take z) h with
  | some (zo,h1,T1)=>match EB f z n (cs.drop z) h1 with
   | some (KW,h2,T2)=>some (zo++KW,h2,T1++T2)
   | none=>none
  | none=>none
theorem ze {f:List A→H→Option (List A×H×List Nat)} (hf:∀cs h cs' h' T,f cs h=some (cs',h',T)→Cv h h' T cs cs') {z:Nat}:∀(n:Nat) (cs:List A) (h:H) (cs':List A) (h':H) (T:List Nat),EB f z n cs h=some (cs',h',T)→Cv h h' T cs cs'
 | 0,cs,h,cs',h',T,e=>by
  simp only [EB,zI,zU] at e
  obtain ⟨rfl,rfl,rfl⟩:=e
  exact Cv.refl h [] _
 | n+1,cs,h,cs',h',T,e=>by
  simp only [EB] at e
  split at e
  ·rename_i zo h1 T1 e1
   split at e
   ·rename_i KW h2 T2 e2
    simp only [zI,zU] at e
    obtain ⟨rfl,rfl,rfl⟩:=e
    have:=(hf _ _ _ _ _ e1).append (ze hf n _ _ _ _ _ e2)
    rwa [zP] at this
   ·cases e
  ·cases e
theorem mS {pv:A} {S:Hp} {T El:TypeId} {n z:Nat} {parts:Array (Nat×Operand)} {ie:TypeInfo} {zv:Value} {es cs:List A} {q:Nat} {g g0:G} {w:World} {a:Act} (ho:o.op = .buildSlice T n parts) (hT:P.underlying T=some (.slice El)) (hE:P.info? El=some ie) (hz:ie.zero=some zv)
  (hs:ie.size=z) (h0:0<z) (hn:n*z≤16777216) (pT:EP ρ z parts.toList 0=some es) (hl:parts.toList.length=n) (hI:Inv g S w) (hv:∀x∈o.op.operands,V g0 (ρ x) (a.eval x)) (hf:S.fr q) (e5:Vs g cs ((parts.toList.map fun x=>a.eval x.2).flatMap (fun v=>v.cells.toList)))
  (qL:∀g' b,g'.bl q=some (some b,(n*z,n*z))→n≤maxLen→V g' pv (.slice (some ⟨b,0,none⟩) n n)):rZ P o S (S.new q (.cells cs)) pv g w a:=by
 intro next Q K
 subst hs
 obtain ⟨e2,e1,e3,e4⟩:=pW (z:=ie.size) (a:=a) (g:=g0) parts.toList 0 es (fun x hx=>hv x.2 (by
  simp only [ho,Op.operands]
  rw [List.mem_toArray]
  exact List.mem_map.2 ⟨x,hx,rfl⟩)) pT
 have L6:((Array.range (n*ie.size)).map (zv.cells[· % zv.cells.size]!)).size=n*ie.size:=by simp
 have Tl:=Go.Great.fill_whole h0 (parts.toList.map fun x=>a.eval x.2) ((Array.range (n*ie.size)).map (zv.cells[· % zv.cells.size]!)) e3 (by simp only [zH];rw [L6,hl])
 have qO:(parts.map fun (i,x)=>(i,a.eval x)).toList=((parts.toList.map fun x=>a.eval x.2).zipIdx 0).map (fun x=>(x.2,x.1)):=by rw [←e2];simp
 generalize yY:(parts.toList.map fun x=>a.eval x.2).flatMap (fun v=>v.cells.toList)=vs at *
 have YM:vs.length=n*ie.size:=by rw [←e4.1,e1,hl]
 obtain ⟨h1,h2⟩:=hI.lg hf (cs:=cs) (vs:=vs.toArray) El (by have:=e5.1;simp;omega) (Vs.all (vs:=vs.toArray) e5)
 have W2:n≤n*ie.size:=Nat.le_mul_of_pos_right _ h0
 have h8:cs.length=n*ie.size:=by rw [e5.1,YM]
 have h9:vs.toArray.size=n*ie.size:=by simp [YM]
 have qL:=qL (jr g q (some w.heap.size,(cs.length,vs.toArray.size))) w.heap.size (by rw [b_,h8,h9]) (by simp only [maxLen];omega)
 unfold Oper.wp
 by_cases Ny:n=0
 ·subst Ny
  have hpe:parts.toList=[]:=zZ hl
  have YK:vs=[]:=zZ (by rw [YM];simp)
  have hp3:parts = #[]:=by apply Array.ext';simp [hpe]
  have eH:(execOp a.eval o).run P w = .ok (.value (.slice (some ⟨w.heap.size,0,none⟩) 0 0)) (w.alloc (.cells #[] El)):=by
   simp [execOp,ho,hp3,Instr.buildSlice,run_underlying hT,sizeOf,typeInfo,hE,Instr.fill,newRow,Array.range_zero']
  rw [eH]
  subst YK
  exact K (.slice (some ⟨w.heap.size,0,none⟩) 0 0) _ _ qL h1 h2
 ·have YY:¬n*ie.size=0:=by
   intro h;rcases Nat.mul_eq_zero.1 h with h | h<;>omega
  have eH:(execOp a.eval o).run P w = .ok (.value (.slice (some ⟨w.heap.size,0,none⟩) n n)) (w.alloc (.cells vs.toArray El)):=by
   have:=run_buildSlice (P:=P) w T El n (parts.map fun (i,x)=>(i,a.eval x)) vs.toArray ie zv hT hE hz (by omega) YY (by rw [qO];exact Tl)
   simp only [execOp,ho,Sem.run_bind,this,Result.andThen_ok,Sem.run_pure]
  rw [eH]
  exact K _ _ _ qL h1 h2
def MX (E:Env) (T n:Nat) (ρ:Operand→A) (ps:List (Nat×Operand)) (h:H) (K:A→H→Fp→Option β):Option β:=match cq E.dJ T with
 | some ⟨.slice el,_,_,_,_,_,_⟩=>match cq E.dJ el with
  | some e=>bif Nat.blt 0 e.size && Nat.ble (n*e.size) 16777216 && Nat.beq ps.length n then (match EP ρ e.size ps 0,e.t with
   | some es,some t=>match EB (fixC 64 t) t.size n es h with
    | some (ni,h1,T1)=>match se (oB t) t.size n ni with
     | some l=>mD (.row t l) h1 (fun q h2=>K (.tw (.loc q) e.size) h2 (.wr (dk q::T1)))
     | none=>none
    | none=>none
   | some es,none=>mD (.cells es) h (fun q h2=>K (.sl q 0 e.size n) h2 (.wr [dk q]))
   | _,_=>none) else none
  | none=>none
 | _=>none
theorem Step.new {T1:List Nat} {h1 h2:H} {us:List Up} {x:Ob} {pv:A} (c1:hp h1=app us (hp h)) (c2:∀u∈us,touch (.wr T1) u.id=true) (hq:h1.aS<16777216) (hf:(hp h1).fr h1.aS) (hh:hp h2=app [.new h1.aS x] (hp h1)) (hd:∀c,o.op≠.defer c)
  (k:∀S2 g w a,Agree (.wr T1) (hp h) S2→(app us S2).fr h1.aS→Inv g S2 w→(∀x∈o.op.operands,V g (ρ x) (a.eval x))→rZ P o S2 ((app us S2).new h1.aS x) pv g w a):Step P o ρ h h2 (.wr (dk h1.aS::T1)) pv:=
 .of (us++[.new h1.aS x]) (by rw [ib,←c1,hh]) rfl (fun u hu=>by
  rcases zX.1 hu with hu | hu
  ·exact eO (fun i hi=>.tail _ hi) (c2 u hu)
  ·rcases zF.1 hu with rfl;exact aB (o:=h1.aS) hq (.head _)) (fun S2 hA g w a next Q hI hv K'=>by
  have nq:(app us S2).fr h1.aS:=by
   have:=Agree.app us hA
   rw [←c1] at this
   exact (this h1.aS (aB hq (.head _))).2.2 hf
  have e:=ib us [.new h1.aS x] S2
  rw [e] at K'
  exact k S2 g w a (hA.mono fun i hi=>.tail _ hi) nq hI hv next Q K') hd
theorem Ih (hE:bR P E) {T n:Nat} {ps:Array (Nat×Operand)} (ho:o.op = .buildSlice T n ps) (hr:MX E T n ρ ps.toList h K=some r):Out P o ρ h K r:=by
  have hd:∀c,o.op≠.defer c:=by rw [ho];intro c e;cases e
  unfold MX at hr
  split at hr
  · rename_i el _ _ _ _ _ _ ht
    split at hr
    · rename_i e he
      obtain ⟨hc,hr⟩:=ah hr
      simp only [zC] at hc
      have h0:=ba hc.1.1
      have hn:=Nat.le_of_ble_eq_true hc.1.2
      have hl:=beq_eq hc.2
      obtain ⟨i,t1,t2,t3,t4,t5,t6⟩:=(hE.dJ _ _ he).ti
      split at hr
      · rename_i es t pT wH
        split at hr
        · rename_i ni h1 T1 hf
          split at hr
          · rename_i l hy
            obtain ⟨us,c1,c2,c3⟩:=ze (fun cs h cs' h' T e=>od _ _ _ _ _ _ _ e) _ _ _ _ _ _ hf
            obtain ⟨h2,k1,hq,nq,hh⟩:=fF hr
            refine ⟨_,_,_,k1,.new c1 c2 hq nq hh hd (fun S2 g w a hA hf hI hv=>?_)⟩
            obtain ⟨e2,e1,e3,e4⟩:=pW (z:=e.size) (a:=a) (g:=g) ps.toList 0 es (fun x hx=>hv x.2 (by
              simp only [ho,Op.operands]
              rw [List.mem_toArray]
              exact List.mem_map.2 ⟨x,hx,rfl⟩)) pT
            obtain ⟨g1,q1,q2,q3⟩:=c3 g S2 w _ hI hA e4
            obtain ⟨z1,z2,z3⟩:=nD (g:=g1) (fun cs x h=>iW t cs x h) _ _ _ hy
            refine rZ.pre ?_ q2
            refine mS (g0:=g) ho (hE.dJ _ _ ht).u t1 t2 t3 h0 hn pT hl q1 hv hf ?_ (fun g' b hb hx=>.tw (.loc h1.aS) e.size n b n _ hb (Nat.le_refl _) hx (Nat.le_refl _) 0 (fun _=>rfl))
            exact z3 _ q3
          · cases hr
        · cases hr
      · rename_i es pT wH
        obtain ⟨h2,k1,hq,nq,hh⟩:=fF hr
        refine ⟨_,_,_,k1,.of _ hh rfl (fun u hu=>by rcases zF.1 hu with rfl;exact aB (o:=h.aS) hq (.head _)) (fun S2 hA g w a next Q hI hv K'=>?_) hd⟩
        obtain ⟨e2,e1,e3,e4⟩:=pW (z:=e.size) (a:=a) (g:=g) ps.toList 0 es (fun x hx=>hv x.2 (by
              simp only [ho,Op.operands]
              rw [List.mem_toArray]
              exact List.mem_map.2 ⟨x,hx,rfl⟩)) pT
        exact mS (g0:=g) ho (hE.dJ _ _ ht).u t1 t2 t3 h0 hn pT hl hI hv ((hA _ (aB hq (.head _))).2.2 nq) e4 (fun g' b hb hx=>.sl h.aS 0 e.size n b n _ hb (Nat.le_refl _) hx (by omega)) next Q K'
      · cases hr
    · cases hr
  · cases hr
end
end
section
open Go.RowKit
section
variable {P:Program} {E:Env} {o:Oper} {ρ:Operand→A} {h:H} {β:Type} {K:A→H→Fp→Option β} {r:β}
theorem V.qb {g:G} {S:Hp} {w:World} (hI:Inv g S w) {X:Ref} {t:Ty} {l:List t.T} (h0:0<t.size) (ho:S.ob X.id=some (.cells (l.flatMap (aA t)))) {v:Value} (hv:V g (.tw X t.size) v) :
  (∃ad,g.bl X.id=some (none,(0,0))∧v = .slice ad 0 0∧l=[])∨∃b s cap d,g.bl X.id=some (some b,s)∧v = .slice (some ⟨b,d,none⟩) l.length cap∧(cap≠0→d=0)∧l.length≤cap∧cap≤maxLen∧cap*t.size≤s.2:=by
 have hlen:=bg t l
 cases hv with
 | sa _ _ ad bF=>
  rcases hI.cells _ _ ho with ⟨_,k2⟩ | ⟨b,tt,k1,_⟩
  ·refine .inl ⟨ad,bF,rfl,zZ ?_⟩
   rw [k2] at hlen
   rcases Nat.eq_zero_or_pos l.length with h | h
   ·exact h
   ·have:0<l.length*t.size:=Nat.mul_pos h h0
    simp at hlen;omega
  ·rw [k1] at bF;cases bF
 | tw _ _ m b cap tt bF hn oV hp d mE=>
  rcases hI.cells _ _ ho with ⟨k1,_⟩ | ⟨b',Gi,k1,_⟩
  ·rw [k1] at bF;cases bF
  have Ml:=bF
  rw [k1] at bF
  simp only [zI,zU] at bF
  obtain ⟨rfl,hl,rfl⟩:=bF
  rw [hlen] at hl
  have hm:l.length=m:=Nat.eq_of_mul_eq_mul_right h0 hl
  subst hm
  exact .inr ⟨b',_,cap,d,Ml,rfl,mE,hn,oV,hp⟩
def SF (h:H) (px:A) (k:Nat→List Nat→Option β):Option β:=match px with
 | .e0=>k 0 []
 | .v (.slice _ n _)=>k n []
 | .tl _ _ l=>k (len l) []
 | .tw X z=>iZ h X (fun t l=>bif Nat.beq z t.size && Nat.blt 0 t.size then k (len l) [iz X] else none)
 | .ts _ _ _ n=>k n []
 | .tf _ _ _ n=>k n []
 | .aa _ _ n _=>k n []
 | .sl _ _ _ n=>k n []
 | _=>none
theorem V.PY {g:G} {t:Ty} {f:Bool} {l:List t.T} {v:Value} (hv:V g (.tl t f l) v):∃ad c,v = .slice ad l.length c:=by
 cases hv with
 | tl _ _ _ _ hd=>
  generalize pT:List.map (dw t) l=es at hd
  have oY:es.length=l.length:=by rw [←pT,zH]
  cases hd with
  | uQ=>rw [←oY];exact ⟨_,_,rfl⟩
  | sl _ _ _ a cap vs=>rw [←oY];exact ⟨_,_,rfl⟩
theorem Hj {px:A} {k:Nat→List Nat→Option β} (hr:SF h px k=some r):∃n T,k n T=some r∧∀S2,Agree (.rd T) (hp h) S2→∀g w v,Inv g S2 w→V g px v→∃ad c,v = .slice ad n c:=by
 cases px with
 | e0=>exact ⟨0,[],hr,fun S2 _ g w v _ hv=>by cases hv with | e0 ad=>exact ⟨ad,0,rfl⟩⟩
 | v x=>cases x with
  | slice ad n c=>exact ⟨n,[],hr,fun S2 _ g w v _ hv=>by cases hv;exact ⟨_,_,rfl⟩⟩
  | _=>cases hr
 | tl t f l=>exact ⟨len l,[],hr,fun S2 _ g w v _ hv=>hv.PY⟩
 | tw X z=>
  obtain ⟨t,l,hr,hX,eN⟩:=eF (show iZ h X _=some r from hr)
  obtain ⟨h1,hk⟩:=ah hr
  simp only [zC] at h1
  obtain rfl:=beq_eq h1.1
  exact ⟨_,_,hk,fun S2 hA g w v hI hv=>by
   rcases hv.qb hI (ba h1.2) ((hA _ (bC hX (.head _))).1.trans eN) with ⟨ad,_,rfl,rfl⟩ | ⟨b,s,cap,d,_,rfl,_⟩
   ·exact ⟨ad,0,rfl⟩
   ·exact ⟨_,cap,rfl⟩⟩
 | ts X z off n=>exact ⟨n,[],hr,fun S2 _ g w v _ hv=>by
   cases hv with
   | sc _ _ _ _ ad _ hn=>exact ⟨ad,0,by rw [show n=0 by omega]⟩
   | ts=>exact ⟨_,_,rfl⟩⟩
 | tf X z off n=>exact ⟨n,[],hr,fun S2 _ g w v _ hv=>by
   cases hv with
   | Ct _ _ _ _ ad _ hn=>exact ⟨ad,0,by rw [show n=0 by omega]⟩
   | tf=>exact ⟨_,_,rfl⟩⟩
 | aa X π n z=>exact ⟨n,[],hr,fun S2 _ g w v _ hv=>by cases hv;exact ⟨_,_,rfl⟩⟩
 | sl q off z n=>exact ⟨n,[],hr,fun S2 _ g w v _ hv=>by cases hv;exact ⟨_,_,rfl⟩⟩
 | _=>cases hr
def xo (E:Env) (T:Nat):Option Nat:=match cq E.dJ T with
 | some ⟨.slice el,_,_,_,_,_,_⟩=>some el
 | _=>none
theorem nU (hE:bR P E) {T el:Nat} (h:xo E T=some el):P.underlying T=some (.slice el):=by
 unfold xo at h
 split at h
 ·rename_i ht;cases h;exact (hE.dJ _ _ ht).u
 ·cases h
def LW (E:Env) (T:Nat) (px:A) (h:H) (K:A→H→Fp→Option β):Option β:=match xo E T with
 | some _=>SF h px (fun n T=>K (.v (.int .i64 (zN n))) h (.rd T))
 | none=>none
theorem Hi (hE:bR P E) {T:Nat} {x:Operand} (ho:o.op = .call { callee:=.builtin .len,args:=#[x],argTypes:=#[T] }) (hr:LW E T (ρ x) h K=some r):Out P o ρ h K r:=by
 unfold LW at hr
 split at hr
 ·rename_i el he
  obtain ⟨n,T',h1,h2⟩:=Hj hr
  exact .read _ h1 (fun S2 hA=>GX ho ⟨el,nU hE he⟩ (h2 S2 hA)) (by rw [ho];intro c e;cases e)
 ·cases hr
def xL {α:Type} (d:α) (n:Nat) (l:List α):List α:=(List.range n).map (nth d l)
theorem Bw {α β:Type} (f:α→List β) (d:α) (n:Nat) (l:List α):(xL d n l).flatMap f=Fj f d n l:=by
 unfold xL Fj
 rw [List.flatMap_map]
theorem ED {α:Type} (d:α) (n:Nat) (l:List α):(xL d n l).length=n:=by simp [xL]
def wV (h:H) (t:Ty) (py:A) (k:List t.T→List Nat→Option β):Option β:=match py with
 | .e0=>k [] []
 | .v (.slice _ 0 _)=>k [] []
 | .tl t' _ l=>match fp (.aI t') (.aI t) l with
  | some l'=>bif t.data then k l' [] else none
  | none=>none
 | .nn t' l=>match fp (.aI t') (.aI t) l with
  | some l'=>bif t.data then k l' [] else none
  | none=>none
 | .os r z o=>opt o (k [] []) (fun j=>iZ h (.eh r j) (fun t' l=>match fp (.aI t') (.aI t) l with
  | some l'=>bif Nat.beq z t.size && Nat.blt 0 t.size then k l' [iz (.eh r j)] else none
  | none=>none))
 | .tw X z=>iZ h X (fun t' l=>match fp (.aI t') (.aI t) l with
  | some l'=>bif Nat.beq z t.size && Nat.blt 0 t.size then k l' [iz X] else none
  | none=>none)
 | .ts X z off n=>iZ h X (fun t' l=>match fp (.aI t') (.aI t) l with
  | some l'=>bif Nat.beq z t.size && Nat.blt 0 t.size then k (tk n (dr off l')) [iz X] else none
  | none=>none)
 | .tf X z off n=>iZ h X (fun t' l=>match fp (.aI t') (.aI t) l with
  | some l'=>bif Nat.beq z t.size && Nat.blt 0 t.size then k (tk n (dr off l')) [iz X] else none
  | none=>none)
 | .aa X π n z=>qA h X π (fun sg=>match fp sg.t (.arr n t) sg.x with
  | some l=>bif Nat.beq z t.size then k (xL t.cF n l) [iz X] else none
  | none=>none)
 | .sl q off z n=>match h.t.get q with
  | some (.cells cs)=>bif Nat.blt q 16777216 && Nat.beq z t.size && Nat.ble (off+n*z) cs.length then (match se (oB t) t.size n ((cs.drop off).take (n*z)) with
   | some l=>k l [dk q]
   | none=>none) else none
  | _=>none
 | _=>none
theorem Given.conv {g:G} {w:World} {v:Value} {sz m:Nat} {ps qs:List A} (k:Given g w v sz m ps) (hc:∀vs,Vs g ps vs→Vs g qs vs):Given g w v sz m qs:=by
 obtain ⟨A2,lJ,us,h1,h2,h3,h4⟩:=k
 exact ⟨A2,lJ,us,h1,hc _ h2,h3,h4⟩
theorem V.sT {g:G} {S:Hp} {w:World} (hI:Inv g S w) {t:Ty} (hd:t.data=true) {f:Bool} {l:List t.T} {v:Value} (hv:V g (.tl t f l) v):Given g w v t.size l.length (l.flatMap (aA t)):=by
 cases hv with
 | tl _ _ _ _ hv=>
  generalize pT:List.map (dw t) l=es at hv
  have oY:es.length=l.length:=by rw [←pT,zH]
  have Me:es.flatten=l.flatMap (dw t):=by rw [←pT,kI]
  cases hv with
  | uQ=>
   have:l=[]:=zZ oY.symm
   subst this
   exact .zero ⟨_,_,rfl⟩
  | sl _ _ _ a cap vs hz hc hf hn hx hl hm FY=>
   rw [Me] at FY hl
   have yY:l9 g.mem (l.flatMap (dw t)) vs:=⟨hl,FY⟩
   have h1:=EA (g:=g) (f:=aA t) (f':=dw t) (fun x us hu=>l9.cells t x us hd hu) (fun x=>by rw [bG,eI]) l vs yY
   rw [oY]
   refine ⟨_,cap,vs,rfl,h1,by rw [←h1.1,bg],fun h0=>?_⟩
   cases a with
   | none=>have:=hn rfl;omega
   | some p=>
    refine ⟨_,rfl,fun j x hj=>?_⟩
    obtain ⟨cur,ty,fz,q1,q2⟩:=hI.mem _ _ _ (hm p j x rfl hj)
    rw [show (Xk p).add j=⟨p.1,p.2+j,none⟩ from Addr.add_lit _ _ _,cell_of_row w p.1 _ cur ty _ q1];exact q2
theorem piece {g:G} {S:Hp} {w:World} (hI:Inv g S w) {X:Ref} {t:Ty} {l:List t.T} {off n b cap d:Nat} {s:Nat×Nat} (_h0:0<t.size) (eN:S.ob X.id=some (.cells (l.flatMap (aA t)))) (bF:g.bl X.id=some (some b,s)) (hle:off+n≤l.length) (hd:n≠0→d=off*t.size) :
  Given g w (.slice (some ⟨b,d,none⟩) n cap) t.size (tk n (dr off l)).length ((tk n (dr off l)).flatMap (aA t)):=by
 have hl:(tk n (dr off l)).length=n:=by simp [tk,dr];omega
 rw [hl]
 rcases Nat.eq_zero_or_pos n with h0 | h0
 ·subst h0
  rw [show tk 0 (dr off l)=[] from by simp [tk]]
  exact .zero ⟨_,cap,rfl⟩
 ·obtain rfl:=hd (by omega)
  have:=hI.given (off:=off*t.size) (sz:=t.size) (m:=n) (cap:=cap) eN bF (by rw [bg,←Nat.add_mul];exact zW _ hle)
  rw [iC] at this
  exact this
theorem sV {t:Ty} {py:A} {k:List t.T→List Nat→Option β} (hr:wV h t py k=some r):∃l T,k l T=some r∧∀S2,Agree (.rd T) (hp h) S2→∀g w v,Inv g S2 w→V g py v→Given g w v t.size l.length (l.flatMap (aA t)):=by
 cases py with
 | e0=>exact ⟨[],[],hr,fun S2 _ g w v _ hv=>by cases hv with | e0 ad=>exact .zero ⟨ad,0,rfl⟩⟩
 | v x=>cases x with
  | slice ad n c=>cases n with
   | zero=>exact ⟨[],[],hr,fun S2 _ g w v _ hv=>by cases hv;exact .zero ⟨_,_,rfl⟩⟩
   | succ n=>cases hr
  | _=>cases hr
 | tl t' f l=>
  unfold wV at hr
  simp only at hr
  split at hr
  ·rename_i l' hl
   obtain ⟨e,rfl⟩:=ck hl
   cases e
   obtain ⟨h1,hr⟩:=ah hr
   exact ⟨_,[],hr,fun S2 _ g w v hI hv=>hv.sT hI h1⟩
  ·cases hr
 | nn t' l=>
  unfold wV at hr
  simp only at hr
  split at hr
  ·rename_i l' hl
   obtain ⟨e,rfl⟩:=ck hl
   cases e
   obtain ⟨h1,hr⟩:=ah hr
   exact ⟨_,[],hr,fun S2 _ g w v hI hv=>by cases hv with | nn _ _ a n c h=>exact (V.tl _ false _ _ h).sT hI h1⟩
  ·cases hr
 | os q z o=>
  rcases g_ (show opt o (k [] []) _=some r from hr) with ⟨e0,hr⟩ | ⟨jj,e0,hr⟩
  ·exact ⟨[],[],hr,fun S2 _ g w v _ hv=>by
    cases hv with
    | os _ _ _ _ h0 _=>cases h0 e0 with | e0 ad=>exact .zero ⟨ad,0,rfl⟩⟩
  ·obtain ⟨t',l,hr,hX,eN⟩:=eF (show iZ h (.eh q jj) _=some r from hr)
   split at hr
   ·rename_i l' hl
    obtain ⟨e,rfl⟩:=ck hl
    cases e
    obtain ⟨h1,hk⟩:=ah hr
    simp only [zC] at h1
    have ez:=beq_eq h1.1
    subst ez
    refine ⟨_,_,hk,fun S2 hA g w v hI B2=>?_⟩
    have hv:V g (.tw (.eh q jj) t.size) v:=by cases B2 with | os _ _ _ _ _ h1=>exact h1 jj e0
    have dU:=(hA _ (bC hX (.head _))).1.trans eN
    rcases hv.qb hI (ba h1.2) dU with ⟨ad,_,rfl,rfl⟩ | ⟨b,s,cap,d,bF,rfl,hd,hn,_⟩
    ·exact .zero ⟨ad,0,rfl⟩
    ·rcases Nat.eq_zero_or_pos l.length with h0 | h0
     ·have:l=[]:=zZ h0
      subst this
      exact .zero ⟨_,cap,rfl⟩
     ·obtain rfl:=hd (by omega)
      have:=hI.given (off:=0) (sz:=t.size) (m:=l.length) (cap:=cap) dU bF (by rw [bg];omega)
      rw [List.drop_zero,za (by rw [bg];exact Nat.le_refl _)] at this
      exact this
   ·cases hr
 | tw X z=>
  obtain ⟨t',l,hr,hX,eN⟩:=eF (show iZ h X _=some r from hr)
  split at hr
  ·rename_i l' hl
   obtain ⟨e,rfl⟩:=ck hl
   cases e
   obtain ⟨h1,hk⟩:=ah hr
   simp only [zC] at h1
   obtain rfl:=beq_eq h1.1
   refine ⟨_,_,hk,fun S2 hA g w v hI hv=>?_⟩
   have dU:=(hA _ (bC hX (.head _))).1.trans eN
   rcases hv.qb hI (ba h1.2) dU with ⟨ad,_,rfl,rfl⟩ | ⟨b,s,cap,d,bF,rfl,hd,hn,_⟩
   ·exact .zero ⟨ad,0,rfl⟩
   ·rcases Nat.eq_zero_or_pos l.length with h0 | h0
    ·have:l=[]:=zZ h0
     subst this
     exact .zero ⟨_,cap,rfl⟩
    ·obtain rfl:=hd (by omega)
     have:=hI.given (off:=0) (sz:=t.size) (m:=l.length) (cap:=cap) dU bF (by rw [bg];omega)
     rw [List.drop_zero,za (by rw [bg];exact Nat.le_refl _)] at this
     exact this
  ·cases hr
 | ts X z off n=>
  obtain ⟨t',l,hr,hX,eN⟩:=eF (show iZ h X _=some r from hr)
  split at hr
  ·rename_i l' hl
   obtain ⟨e,rfl⟩:=ck hl
   cases e
   obtain ⟨h1,hk⟩:=ah hr
   simp only [zC] at h1
   obtain rfl:=beq_eq h1.1
   refine ⟨_,_,hk,fun S2 hA g w v hI hv=>?_⟩
   have dU:=(hA _ (bC hX (.head _))).1.trans eN
   have hle:=sb hI (ba h1.2) dU hv
   cases hv with
   | sc _ _ _ _ ad _ hn=>
    rw [show n=0 by omega,show tk 0 (dr off l)=[] by simp [tk]]
    exact .zero ⟨ad,0,rfl⟩
   | ts _ _ _ _ b cap s bF hn hx hs L8 d hd=>exact piece hI (ba h1.2) dU bF hle (fun Ny=>hd (by omega))
  ·cases hr
 | tf X z off n=>
  obtain ⟨t',l,hr,hX,eN⟩:=eF (show iZ h X _=some r from hr)
  split at hr
  ·rename_i l' hl
   obtain ⟨e,rfl⟩:=ck hl
   cases e
   obtain ⟨h1,hk⟩:=ah hr
   simp only [zC] at h1
   obtain rfl:=beq_eq h1.1
   refine ⟨_,_,hk,fun S2 hA g w v hI hv=>?_⟩
   have dU:=(hA _ (bC hX (.head _))).1.trans eN
   cases hv with
   | Ct _ _ _ _ ad _ hn=>
    rw [show n=0 by omega,show tk 0 (dr off l)=[] by simp [tk]]
    exact .zero ⟨ad,0,rfl⟩
   | tf _ _ _ _ b s bF hx hs d hd=>
    have hle:off+n≤l.length:=by
     rcases hI.cells _ _ dU with ⟨k1,_⟩ | ⟨b',Gi,k1,_⟩
     ·rw [k1] at bF;cases bF
     rw [k1] at bF
     simp only [zI,zU] at bF
     obtain ⟨_,rfl⟩:=bF
     simp only [bg] at hs
     exact Nat.le_of_mul_le_mul_right hs (ba h1.2)
    exact piece hI (ba h1.2) dU bF hle hd
  ·cases hr
 | aa X π n z=>
  obtain ⟨sg,hk,hX,h2⟩:=sq (show qA h X π _=some r from hr)
  split at hk
  ·rename_i l hl
   obtain ⟨st,sx⟩:=sg
   obtain ⟨e,hl⟩:=ck hl
   simp only at e hl h2
   subst e
   simp only at hl
   subst hl
   obtain ⟨h1,hk⟩:=ah hk
   refine ⟨_,_,hk,fun S2 hA g w v hI hv=>?_⟩
   obtain rfl:=beq_eq h1
   cases hv with
   | aa _ _ _ _ b cap s bF hp hn hx=>
    have ha:=hA _ (bC hX (.head _))
    obtain ⟨a,c,q1,q2⟩:=h2 g _ w _ hI ha.1 ha.2 (.tp X π b s bF hp)
    have e1:(xL (α:=t.T) t.cF n sx).flatMap (aA t)=aA (.arr n t) sx:=Bw _ _ _ _
    have e3:(xL (α:=t.T) t.cF n sx).length=n:=ED _ _ _
    have e2:(aA (.arr n t) sx).length=n*t.size:=bG (.arr n t) sx
    have:=hI.given (off:=du π) (sz:=t.size) (m:=n) (cap:=cap) q1 bF (by simp only [zY];rw [e2];omega)
    rw [←q2,List.drop_left,←e2,List.take_left,q2] at this
    exact Eq.subst (motive:=fun k=>Given g w _ t.size k _) e3.symm (Eq.subst (motive:=fun cs=>Given g w _ t.size n cs) e1.symm this)
  ·cases hk
 | sl q off z n=>
  unfold wV at hr
  simp only at hr
  split at hr
  ·rename_i cs hg
   obtain ⟨h1,hr⟩:=ah hr
   simp only [zC] at h1
   have hq:=ba h1.1.1
   obtain rfl:=beq_eq h1.1.2
   split at hr
   ·rename_i l hy
    refine ⟨_,_,hr,fun S2 hA g w v hI hv=>?_⟩
    obtain ⟨z1,z2,z3⟩:=nD (g:=g) (fun cs x h=>iW t cs x h) _ _ _ hy
    have eN:(hp h).ob q=some (.cells cs):=by rw [jM hq];unfold fh;rw [hg];rfl
    cases hv with
    | sl _ _ _ _ b cap s bF hn hx hs=>
     rw [z2]
     exact (hI.given ((hA q (aB hq (.head _))).1.trans eN) bF (Nat.le_of_ble_eq_true h1.2)).conv z3
   ·cases hr
  ·cases hr
 | _=>cases hr
end
end
section
open Go.RowKit
section
variable {P:Program} {E:Env} {o:Oper} {ρ:Operand→A} {h:H} {β:Type} {K:A→H→Fp→Option β} {r:β}
theorem u0 (t:Ty) (n:Nat) (x:t.T):(rep n x).flatMap (aA t)=oM n (aA t x):=by
 unfold rep oM
 induction n with
 | zero=>rfl
 | succ n ih=>rw [List.replicate_succ,List.replicate_succ,List.flatMap_cons,List.flatten_cons,ih]
def Yr (E:Env) (T:Nat) (same:Bool) (px:A) (h:H) (K:A→H→Fp→Option β):Option β:=match xo E T with
 | some el=>match cq E.dJ el,px with
  | some e,.v (.int _ m)=>match e.t with
   | some t=>bif same && Nat.blt 0 e.size && Nat.ble (16777216*e.bytes) 281474976710656 then gd (bw m) (gd (bp (nN m) 16777216) (mD (.row t (rep (nN m) t.cF)) h (fun q h'=>K (.tw (.loc q) e.size) h' (.wr [dk q])))) else none
   | none=>none
  | _,_=>none
 | none=>none
theorem LP (hE:bR P E) {T:Nat} {x y:Operand} {same:Bool} (ho:o.op = .makeSlice T x y) (hs:same=true→x=y) (hr:Yr E T same (ρ x) h K=some r):Out P o ρ h K r:=by
 have hd:∀c,o.op≠.defer c:=by rw [ho];intro c e;cases e
 unfold Yr at hr
 split at hr
 ·rename_i el he
  split at hr
  ·rename_i e k m ht hx
   split at hr
   ·rename_i t wH
    obtain ⟨h1,hr⟩:=ah hr
    simp only [zC] at h1
    obtain rfl:=hs h1.1.1
    obtain ⟨h2,hr⟩:=bq hr
    obtain ⟨h3,hr⟩:=bq hr
    have h3:nN m≤16777216:=h3
    obtain ⟨h',k1,hq,hf,hh⟩:=fF hr
    have hk:=hE.dJ _ _ ht
    have hb:=Nat.le_of_ble_eq_true h1.2
    refine ⟨_,_,_,k1,.of _ hh rfl (fun u hu=>by rcases zF.1 hu with rfl;exact aB (o:=h.aS) hq (.head _)) (fun S2 hA=>?_) hd⟩
    have e1:f_.low (.row t (rep (nN m) t.cF)) = .cells (oM (nN m) (aA t t.cF)):=congrArg Ob.cells (u0 t _ _)
    rw [e1]
    have oV:ρ x = .v (.int k ((nN m:Nat):Int)):=by rw [hx,mO h2]
    exact rO ho (nU hE he) hk.ti (ba h1.1.2) oV oV (Nat.le_trans (zW _ h3) hb) (by omega) ((hA _ (aB hq (.head _))).2.2 hf) (hk.tz t wH)
   ·cases hr
  ·cases hr
 ·cases hr
def MH (h:H) (X:Ref) (k:H→Option β):Option β:=bif vD h (iz X) then none else match X with
 | .loc o=>eP h.t o none (fun t1=>k { h with t:=t1 })
 | .eh r j=>match bn h.rg r with
  | some ⟨_,.row t',c⟩=>bif Nat.blt r 64 then gd (bD j (len (α:=Option (List t'.T)) c)) (k { h with rg:=iY h.rg r (.row t') (upd (α:=Option (List t'.T)) c j none) }) else none
  | _=>none
theorem qn {t:Ty} {c:List (Option (List t.T))} {j:Nat} (hj:j<c.length) (i:Nat):dK (.row t) (upd c j none) i=if i=j then none else dK (.row t) c i:=by
 show (match kG (upd c j none) i with | some (some l)=>some (Ob.cells (l.flatMap (aA t))) | _=>none)=if i=j then none else (match kG c i with | some (some l)=>some (Ob.cells (l.flatMap (aA t))) | _=>none)
 rw [n_]
 by_cases h:i=j
 ·subst h;rw [if_pos ⟨rfl,hj⟩,if_pos rfl]
 ·rw [if_neg (fun k=>h k.1),if_neg h]
theorem zk {X:Ref} {k:H→Option β} (hr:MH h X k=some r):∃h',k h'=some r∧A6 X=true∧hp h'=app [.del X.id] (hp h)∧h'.aS=h.aS:=by
 obtain ⟨_,hr⟩:=iT hr
 cases X with
 | loc o=>
  obtain ⟨hq,t1,k1,k2⟩:=bm hr
  exact ⟨_,k1,by show Nat.blt o 16777216=true;simpa using (Bh hq),qQ (Bh hq) k2,rfl⟩
 | eh r j=>
  simp only at hr
  split at hr
  ·rename_i _ t' c hf
   obtain ⟨h3,hr⟩:=ah hr
   obtain ⟨h4,hr⟩:=bq hr
   have fe:j<List.length (α:=Option (List t'.T)) c:=h4
   refine ⟨_,hr,h3,?_,rfl⟩
   exact qP (j:=j) (u:=.del (e_ r j)) (ba h3) hf (pN (α:=Option (List t'.T)) c j _) (fun i hi=>by rw [qn (c:=c) fe,if_neg hi]) rfl (by rw [qn (c:=c) fe,if_pos rfl];exact if_pos rfl) rfl
  ·cases hr
def tL:A→Bool
 | .e0=>true
 | .v (.slice _ 0 0)=>true
 | _=>false
theorem V.A_ {g:G} {p:A} {v:Value} (hv:V g p v) (h:tL p=true):∃ad,v = .slice ad 0 0:=by
 unfold tL at h
 split at h
 ·cases hv with | e0 ad=>exact ⟨ad,rfl⟩
 ·cases hv;exact ⟨_,rfl⟩
 ·cases h
theorem rR {S:Hp} {T E':TypeId} {z b m n:Nat} {X:Ref} {zv:Value} {cs ps:List A} {x y:Operand} (ho:o.op = .call { callee:=.builtin .append,args:=#[x,y],argTypes:=#[T,T] }) (hT:P.underlying T=some (.slice E')) (hE:TI P E' z b zv) (h0:0<z)
  (hp:S.ob X.id=some (.cells cs)) (hx:ρ x = .ts X z 0 n) (pU:(n+m)*z≤cs.length) (hy:∀g w v,Inv g S w→V g (ρ y) v→Given g w v z m ps):eM P o ρ S (S.set X.id (.cells (put cs (n*z) ps))) (.ts X z 0 (n+m)):=
 .app ho fun g w a hI e1 e2=>by
  obtain ⟨i,t1,t2,t3,t4,t5,t6⟩:=hE
  subst t3 t4
  have HL:eC P E' i.size:=⟨i,t1,rfl⟩
  obtain ⟨A2,lJ,us,vI,oW,nV,xE⟩:=hy g w _ hI e2
  rw [hx] at e1
  generalize hu:a.eval x=vx at e1 ⊢
  cases e1 with
  | sc _ _ _ _ ad hg hn=>
   rcases hI.cells X.id cs hp with ⟨_,k2⟩ | ⟨b',t,k1,_⟩
   ·subst k2
    have hn:n=0:=by omega
    subst hn
    have hm:m=0:=by
     rcases Nat.eq_zero_or_pos m with h | h
     ·exact h
     ·have:0<(0+m)*i.size:=Nat.mul_pos (by omega) h0
      simp only [List.length_nil] at pU;omega
    subst hm
    have rU:ps=[]:=zZ (by rw [oW.1,nV];simp)
    subst rU
    have hS:S.set X.id (.cells (put [] (0*i.size) []))=S:=by
     refine Hp.ext' (fun j=>?_) (fun j=>Iff.rfl)
     show (if j=X.id then some (.cells (put [] (0*i.size) [])) else S.ob j)=S.ob j
     by_cases hj:j=X.id
     ·subst hj;rw [if_pos rfl,hp];simp [put]
     ·rw [if_neg hj]
    rw [hS,vI]
    exact ⟨_,g,w,gG w T E' o.type hT HL _ A2 0 0 lJ (Nat.le_refl _),.sc X i.size 0 (0+0) ad hg (by simp),hI,.refl S g w⟩
   ·rw [k1] at hg;cases hg
  | ts _ _ _ _ bk cap s hg W1 NC hs L8 d hd hq=>
   rw [vI]
   rw [Nat.zero_add] at L8 hq
   have rU:ps.length=m*i.size:=by rw [oW.1,nV]
   have hlen:(put cs (n*i.size) ps).length=cs.length:=tc (by rw [rU,←Nat.add_mul];exact pU)
   rcases hI.cells X.id cs hp with ⟨k1,_⟩ | ⟨b',t,k1,cur,ty,k2,oC,k3⟩
   ·rw [k1] at hg;cases hg
   have NB:=hg
   rw [k1] at hg;simp at hg
   obtain ⟨rfl,rfl⟩:=hg
   simp only at hq L8 hs
   have po:n+m≤cap:=Nat.le_of_mul_le_mul_right (Nat.le_trans pU hq) h0
   have mQ:(0+(n+m))*i.size≤(cs.length,t).1:=by rw [Nat.zero_add];exact pU
   have qL:∀g',g'.bl X.id=some (some b',(cs.length,t))→V g' (.ts X i.size 0 (n+m)) (.slice (some ⟨b',d,none⟩) (n+m) cap):=fun g' bF=>.ts X i.size 0 (n+m) b' cap _ bF po NC mQ (by rw [Nat.zero_add];exact L8) d hd (by rw [Nat.zero_add];exact hq)
   rcases Nat.eq_zero_or_pos m with rfl | hm
   ·have rU:ps=[]:=zZ (by rw [rU];simp)
    subst rU
    have Bp:put cs (n*i.size) []=cs:=by simp [put]
    have hS:S.set X.id (.cells (put cs (n*i.size) []))=S:=by
     rw [Bp]
     refine Hp.ext' (fun j=>?_) (fun j=>Iff.rfl)
     show (if j=X.id then some (.cells cs) else S.ob j)=S.ob j
     by_cases hj:j=X.id
     ·subst hj;rw [if_pos rfl,hp]
     ·rw [if_neg hj]
    rw [hS]
    exact ⟨_,g,w,gG w T E' o.type hT HL _ A2 n cap lJ W1,qL g NB,hI,.refl S g w⟩
   ·obtain ⟨Gb,rfl,lT⟩:=xE hm
    obtain rfl:=hd (by omega)
    have Nx:(n+m)*i.size≤cs.length:=pU
    rw [Nat.add_mul] at Nx
    obtain ⟨agS,ty',c1,c2,c3,c4⟩:=hI.store (off:=n*i.size) hp NB oW (by rw [rU];exact Nx)
    rw [k2] at c1
    simp only [zI,Obj.cells.injEq,and_true] at c1
    obtain ⟨rfl,rfl⟩:=c1
    have eH:=kr (P:=P) w T o.type E' ty i hT t1 b' n cap cur k2 Gb m lJ us nV lT oW.one po c2
    rw [Nat.zero_mul]
    exact ⟨_,g,_,eH,by have:=qL g NB;rwa [Nat.zero_mul] at this,c3,c4⟩
def M4 (E:Env) (T:Nat) (px py:A) (h:H) (K:A→H→Fp→Option β):Option β:=match xo E T with
 | some el=>match cq E.dJ el with
  | some e=>match e.t with
   | some t=>bif Nat.blt 0 e.size && Nat.ble (16777216*e.bytes) 140737488355328 then wV h t py (fun l T1=>
    bif tL px then gd (bp (len l) 16777216) (mD (.row t l) h (fun q h'=>K (.tw (.loc q) e.size) h' (.pt (dk q) T1)))
    else match px with
    | .tw X z=>iZ h X (fun t' l0=>match fp (.aI t') (.aI t) l0 with
     | some l0=>bif Nat.beq z e.size then gd (bp (aK (len (α:=t.T) l0) (len l)) 16777216) (MH h X (fun h1=>mD (.row t (cat (α:=t.T) l0 l)) h1 (fun q h2=>K (.tw (.loc q) e.size) h2 (.p2 (dk q) (iz X) T1)))) else none
     | none=>none)
    | .ts X z 0 n=>iZ h X (fun t' l0=>match fp (.aI t') (.aI t) l0 with
     | some l0=>bif Nat.beq z e.size then (match py with
      | .ts _ _ _ _=>gd (bp (aK n (len l)) (len (α:=t.T) l0)) (qz h X t (cat (tk (α:=t.T) n l0) (cat l (dr (α:=t.T) (aK n (len l)) l0))) (fun h1=>K (.ts X z 0 (aK n (len l))) h1 (.wr (iz X::T1))))
      | _=>gd (bp (aK n (len l)) 16777216) (MH h X (fun h1=>mD (.row t (cat (tk (α:=t.T) n l0) l)) h1 (fun q h2=>K (.tw (.loc q) e.size) h2 (.p2 (dk q) (iz X) T1))))) else none
     | none=>none)
    | .tf X z off n=>br (af (zN n) 0) (gd (bp (len l) 16777216) (mD (.row t l) h (fun q h'=>K (.tw (.loc q) e.size) h' (.pt (dk q) T1)))) (iZ h X (fun t' l0=>match fp (.aI t') (.aI t) l0 with
     | some l0=>bif Nat.beq z e.size then gd (bD 0 (len l)) (gd (bp (aK n (len l)) 16777216) (mD (.row t (cat (tk n (dr (α:=t.T) off l0)) l)) h (fun q h2=>K (.tw (.loc q) e.size) h2 (.p2 (dk q) (iz X) T1)))) else none
     | none=>none))
    | _=>none) else none
   | none=>none
  | none=>none
 | none=>none
theorem iQ (t:Ty) (a b:List t.T):(cat a b).flatMap (aA t)=a.flatMap (aA t)++b.flatMap (aA t):=List.flatMap_append
theorem tZ (t:Ty) (n:Nat) (l:List t.T):(tk n l).flatMap (aA t)=(l.flatMap (aA t)).take (n*t.size):=by
 have:=iC t l 0 n
 simpa [tk] using this.symm
theorem t_ (t:Ty) (n:Nat) (l:List t.T):(dr n l).flatMap (aA t)=(l.flatMap (aA t)).drop (n*t.size):=by
 have:=iC t l n l.length
 rw [za (by rw [List.length_drop,bg];omega),za (by simp)] at this
 exact this.symm
theorem Kn {t:Ty} {X:Ref} {l:List t.T} {h1 h2:H} {T1:List Nat} {pv:A} (hd:∀c,o.op≠.defer c) (hX:A6 X=true) (e1:hp h1=app [.del X.id] (hp h)) (hn:h1.aS=h.aS) (hq:h1.aS<16777216) (hf:(hp h1).fr h1.aS) (e2:hp h2=app [.new h1.aS (f_.row t l).low] (hp h1))
  (k:∀S2,Agree (.p2 (dk h1.aS) (iz X) T1) (hp h) S2→S2.fr h1.aS→eM P o ρ S2 ((S2.del X.id).new h1.aS (.cells (l.flatMap (aA t)))) pv):Step P o ρ h h2 (.p2 (dk h1.aS) (iz X) T1) pv:=
 .WK [.del X.id,.new h1.aS (.cells (l.flatMap (aA t)))] (by rw [e2,e1];rfl) (fun u hu=>by
  rcases List.mem_cons.1 hu with rfl | hu
  ·exact bC hX (.tail _ (.head _))
  ·rcases zF.1 hu with rfl;exact aB (o:=h1.aS) hq (.head _)) (fun u hu=>by
  show touch (.wr [dk h1.aS,iz X]) u.id=true
  rcases List.mem_cons.1 hu with rfl | hu
  ·exact bC hX (.tail _ (.head _))
  ·rcases zF.1 hu with rfl;exact aB (o:=h1.aS) hq (.head _)) (fun S2 hA=>k S2 hA ((hA _ (aB hq (.head _))).2.2 (by rw [e1] at hf;exact hf))) hd
theorem Io (hE:bR P E) {T:Nat} {x y:Operand} (ho:o.op = .call { callee:=.builtin .append,args:=#[x,y],argTypes:=#[T,T] }) (hr:M4 E T (ρ x) (ρ y) h K=some r):Out P o ρ h K r:=by
 have hd:∀c,o.op≠.defer c:=by rw [ho];intro c e;cases e
 unfold M4 at hr
 split at hr
 ·rename_i el he
  have hT:=nU hE he
  split at hr
  ·rename_i e ht
   have hk:=hE.dJ _ _ ht
   split at hr
   ·rename_i t wH
    have mQ:=hk.ts t wH
    obtain ⟨hb,hr⟩:=ah hr
    simp only [zC] at hb
    have h0:=ba hb.1
    have hb:=Nat.le_of_ble_eq_true hb.2
    have F_:∀{n:Nat},n≤16777216→n*e.bytes≤140737488355328∧n≤maxLen:=fun hn=>⟨Nat.le_trans (zW _ hn) hb,by unfold maxLen;omega⟩
    obtain ⟨l,T1,hr,tP⟩:=sV hr
    rw [mQ] at tP
    cases rV:tL (ρ x) with
    | true=>
     rw [rV] at hr;simp only [cond_true] at hr
     obtain ⟨h2,hr⟩:=bq hr
     have h2:l.length≤16777216:=h2
     obtain ⟨h',k1,hq,hf,hh⟩:=fF hr
     exact ⟨_,_,_,k1,.WK _ hh (fun u hu=>by rcases zF.1 hu with rfl;exact aB (o:=h.aS) hq (.head _)) (fun u hu=>by rcases zF.1 hu with rfl;exact aB (l:=[dk h.aS]) (w:=false) (s:=[]) (o:=h.aS) hq (.head _))
      (fun S2 hA=>lP ho hT hk.ti (fun g v hv=>hv.A_ rV) (tP S2 (hA.mono fun i hi=>.tail _ hi)) ((hA _ (aB hq (.head _))).2.2 hf) (F_ h2).1 (F_ h2).2) hd⟩
    | false=>
     rw [rV] at hr;simp only [cond_false] at hr
     split at hr
     ·rename_i X z hx
      obtain ⟨t',l0,hr,hX,eN⟩:=eF hr
      split at hr
      ·rename_i WO hl
       obtain ⟨e',rfl⟩:=ck hl
       cases e'
       obtain ⟨hz,hr⟩:=ah hr
       have hz:=beq_eq hz
       obtain ⟨h2,hr⟩:=bq hr
       have h2:l0.length+l.length≤16777216:=h2
       obtain ⟨h1,hr,_,e1,hn⟩:=zk hr
       obtain ⟨h',k1,hq,hf,hh⟩:=fF hr
       refine ⟨_,_,_,k1,Kn hd hX e1 hn hq hf hh (fun S2 hA nq=>?_)⟩
       have dU:=(hA _ (bC hX (.tail _ (.head _)))).1.trans eN
       have:=qE (P:=P) (n:=l0.length) (m:=l.length) (z:=e.size) ho hT hk.ti h0 dU (fun g w v hI hv=>by
        rw [hx,hz,←mQ] at hv
        rcases hv.qb hI (by rw [mQ];exact h0) dU with ⟨ad,_,rfl,rfl⟩ | ⟨b,s,cap,d,bF,rfl,k2,k3,k4,k5⟩
        ·exact .inl ⟨ad,rfl,rfl⟩
        ·exact .inr ⟨b,s,cap,d,bF,rfl,k2,k3,k4,by rw [←mQ];exact k5⟩) (by rw [bg,mQ];exact Nat.le_refl _) (tP S2 (hA.mono fun i hi=>.tail _ (.tail _ hi))) nq (F_ h2).1 (F_ h2).2
       rw [za (by rw [bg,mQ];exact Nat.le_refl _),←iQ] at this
       exact this
      ·cases hr
     ·rename_i X z n hx
      obtain ⟨t',l0,hr,hX,eN⟩:=eF hr
      split at hr
      ·rename_i WO hl
       obtain ⟨e',rfl⟩:=ck hl
       cases e'
       obtain ⟨hz,hr⟩:=ah hr
       have hz:=beq_eq hz
       split at hr
       ·obtain ⟨h2,hr⟩:=bq hr
        have h2:n+l.length≤l0.length:=h2
        obtain ⟨h1,k1,k2⟩:=mi hX hr
        refine ⟨_,_,_,k1,⟨fun i hi=>k2.1 i (oI (fun j hj=>by rcases zF.1 hj with rfl;exact .head _) hi),fun i hi=>k2.1 i (oI (T:=iz X::T1) (fun j hj=>by rcases zF.1 hj with rfl;exact .head _) (r_ hi)),fun S2 hA=>?_⟩⟩
        refine eM.Kj (eM.bl fun g w a hI hv=>?_) hd
        have hv:=hv x (by simp [ho,Op.operands,Call.operands])
        have dU:=(hA _ (bC hX (.head _))).1.trans eN
        have S9:¬(hp h).fr X.id:=fun hf=>by
         have Eg:=(hA _ (bC hX (.head _))).2.2 hf
         have:=hI.fresh _ Eg
         rw [hx] at hv
         generalize a.eval x=vx at hv
         cases hv with
         | sc _ _ _ _ ad bF=>rw [bF] at this;cases this
         | ts _ _ _ _ b cap s bF=>rw [bF] at this;cases this
        have e1:=k2.2 S9
        have W_:touch (.wr (iz X::T1)) X.id=true:=bC hX (.head _)
        rw [e1,gI (fun u hu=>by rcases zF.1 hu with rfl;exact W_) hA]
        have:=rR (P:=P) (n:=n) (m:=l.length) (X:=X) ho hT hk.ti h0 dU (by rw [hx,hz]) (by rw [bg,mQ];exact zW _ h2) (tP S2 (hA.mono fun i hi=>.tail _ hi))
        have e2:put (l0.flatMap (aA t)) (n*e.size) (l.flatMap (aA t))=(cat (tk n l0) (cat l (dr (aK n (len l)) l0))).flatMap (aA t):=by
         rw [iQ,iQ,tZ,t_,mQ]
         unfold put
         rw [bg,mQ,←Nat.add_mul];rfl
        rw [e2] at this
        rw [hz]
        exact this
       ·obtain ⟨h2,hr⟩:=bq hr
        have h2:n+l.length≤16777216:=h2
        obtain ⟨h1,hr,_,e1,hn⟩:=zk hr
        obtain ⟨h',k1,hq,hf,hh⟩:=fF hr
        refine ⟨_,_,_,k1,Kn hd hX e1 hn hq hf hh (fun S2 hA nq=>eM.bl fun g0 w0 a0 TA B2=>?_)⟩
        have dU:=(hA _ (bC hX (.tail _ (.head _)))).1.trans eN
        have hle:n≤l0.length:=by
         have hv:=B2 x (by simp [ho,Op.operands,Call.operands])
         rw [hx,hz,←mQ] at hv
         have:=sb TA (by rw [mQ];exact h0) dU hv
         omega
        have:=qE (P:=P) (n:=n) (m:=l.length) (z:=e.size) ho hT hk.ti h0 dU (fun g w v hI hv=>by
         rw [hx,hz] at hv
         cases hv with
         | sc _ _ _ _ ad _ hn=>exact .inl ⟨ad,rfl,by omega⟩
         | ts _ _ _ _ b cap s bF k2 k3 k4 k5 d k6=>
          rw [Nat.zero_add] at k5
          exact .inr ⟨b,s,cap,d,bF,rfl,fun hc=>by rw [k6 hc,Nat.zero_mul],k2,k3,k5⟩) (by rw [bg,mQ];exact zW _ hle) (tP S2 (hA.mono fun i hi=>.tail _ (.tail _ hi))) nq (F_ h2).1 (F_ h2).2
        rw [←mQ,←tZ,←iQ] at this
        rw [←mQ]
        exact this
      ·cases hr
     ·rename_i X z off n hx
      rcases kh hr with ⟨Ny,hr⟩ | ⟨_,hr⟩
      ·obtain ⟨h2,hr⟩:=bq hr
       have h2:l.length≤16777216:=h2
       have Ny:n=0:=by have:=of_decide_eq_true Ny;unfold zN at this;omega
       obtain ⟨h',k1,hq,hf,hh⟩:=fF hr
       exact ⟨_,_,_,k1,.WK _ hh (fun u hu=>by rcases zF.1 hu with rfl;exact aB (o:=h.aS) hq (.head _)) (fun u hu=>by rcases zF.1 hu with rfl;exact aB (l:=[dk h.aS]) (w:=false) (s:=[]) (o:=h.aS) hq (.head _))
        (fun S2 hA=>lP ho hT hk.ti (fun g v hv=>by rw [hx,Ny] at hv;cases hv<;>exact ⟨_,rfl⟩) (tP S2 (hA.mono fun i hi=>.tail _ hi)) ((hA _ (aB hq (.head _))).2.2 hf) (F_ h2).1 (F_ h2).2) hd⟩
      obtain ⟨t',l0,hr,hX,eN⟩:=eF hr
      split at hr
      ·rename_i WO hl
       obtain ⟨e',rfl⟩:=ck hl
       cases e'
       obtain ⟨hz,hr⟩:=ah hr
       have hz:=beq_eq hz
       obtain ⟨h3,hr⟩:=bq hr
       have h3:0<l.length:=h3
       obtain ⟨h2,hr⟩:=bq hr
       have h2:n+l.length≤16777216:=h2
       obtain ⟨h',k1,hq,hf,hh⟩:=fF hr
       refine ⟨_,_,_,k1,.WK _ hh (fun u hu=>by rcases zF.1 hu with rfl;exact aB (o:=h.aS) hq (.head _)) (fun u hu=>by rcases zF.1 hu with rfl;exact aB (l:=[dk h.aS,iz X]) (w:=false) (s:=[]) (o:=h.aS) hq (.head _)) (fun S2 hA=>eM.bl fun g0 w0 a0 TA B2=>?_) hd⟩
       have dU:=(hA _ (bC hX (.tail _ (.head _)))).1.trans eN
       have hle:off+n≤l0.length:=by
        have hv:=B2 x (by simp [ho,Op.operands,Call.operands])
        rw [hx,hz,←mQ] at hv
        generalize a0.eval x=vx at hv
        cases hv with
        | Ct _ _ _ _ _ _ hn=>omega
        | tf _ _ _ _ b s bF _ hs=>
         rcases TA.cells _ _ dU with ⟨k1,_⟩ | ⟨b',Gi,k1,_⟩
         ·rw [k1] at bF;cases bF
         rw [k1] at bF
         simp only [zI,zU] at bF
         obtain ⟨_,rfl⟩:=bF
         simp only [bg] at hs
         exact Nat.le_of_mul_le_mul_right hs (by rw [mQ];exact h0)
       have:=pG (P:=P) (off:=off*e.size) (n:=n) (m:=l.length) (z:=e.size) ho hT hk.ti h0 (fun g w v hI hv=>by
        rw [hx,hz] at hv
        cases hv with
        | Ct _ _ _ _ ad _ hn=>exact .inl ⟨ad,rfl,by omega⟩
        | tf _ _ _ _ b s bF _ _ d k6=>exact .inr ⟨b,s,d,bF,rfl,k6⟩) dU (by rw [bg,mQ,←Nat.add_mul];exact zW _ hle) (tP S2 (hA.mono fun i hi=>.tail _ (.tail _ hi))) h3 ((hA _ (aB hq (.head _))).2.2 hf) (F_ h2).1 (F_ h2).2
       rw [←mQ,iC,←iQ] at this
       rw [←mQ]
       exact this
      ·cases hr
     ·cases hr
   ·cases hr
  ·cases hr
 ·cases hr
end
end
section
open Go.RowKit
theorem mr {α β:Type} {f:α→List β} {s:Nat} (hf:∀x,(f x).length=s) (l:List α):(l.flatMap f).length=l.length*s:=by
 induction l with
 | nil=>simp
 | cons a l ih=>rw [List.flatMap_cons,zY,ih,hf,zR,Nat.succ_mul,Nat.add_comm]
theorem xI {α β:Type} {f:α→List β} {s:Nat} (hf:∀x,(f x).length=s) (l:List α) (off n:Nat):((l.flatMap f).drop (off*s)).take (n*s)=((l.drop off).take n).flatMap f:=by
 have h1:l.flatMap f=(l.take off).flatMap f++(l.drop off).flatMap f:=by rw [←List.flatMap_append,zP]
 by_cases hl:off≤l.length
 ·have h2:((l.take off).flatMap f).length=off*s:=by rw [mr hf,List.length_take,Nat.min_eq_left hl]
  rw [h1,List.drop_append,List.drop_eq_nil_of_le (by omega),List.nil_append,h2,Nat.sub_self,List.drop_zero]
  generalize l.drop off=k
  have h3:k.flatMap f=(k.take n).flatMap f++(k.drop n).flatMap f:=by rw [←List.flatMap_append,zP]
  by_cases hk:n≤k.length
  ·have h4:((k.take n).flatMap f).length=n*s:=by rw [mr hf,List.length_take,Nat.min_eq_left hk]
   rw [h3,List.take_append_of_le_length (by omega),za (by omega)]
  ·rw [za (by rw [mr hf];exact zW _ (by omega)),za (l:=k) (by omega)]
 ·rw [List.drop_eq_nil_of_le (as:=l) (by omega),List.drop_eq_nil_of_le (by rw [mr hf];exact zW _ (by omega))]
  simp
def pJ (ad:Option Addr) (z lo hi c:Nat):Value:=.slice (if c=lo then ad else ad.map (·.add (lo*z))) (hi-lo) (c-lo)
theorem V.wS {g:G} {t:Ty} {f f':Bool} {l:List t.T} {lo hi:Nat} {v:Value} (hv:V g (.tl t f l) v) (h1:lo≤hi) (h2:hi≤l.length) :
  ∃ad cap,v = .slice ad l.length cap∧l.length≤cap∧(f=true→cap=l.length)∧∀c,hi≤c→c≤cap→(f'=true→c=hi)→V g (.tl t f' (tk (hi-lo) (dr lo l))) (pJ ad t.size lo hi c):=by
 cases hv with
 | tl _ _ _ _ hd=>
  generalize pT:List.map (dw t) l=es at hd
  have oY:es.length=l.length:=by rw [←pT,zH]
  have Me:es.flatten=l.flatMap (dw t):=by rw [←pT,kI]
  cases hd with
  | uQ=>
   have:l=[]:=zZ oY.symm
   subst this
   refine ⟨_,0,rfl,Nat.le_refl _,fun _=>rfl,fun c k1 k2 k3=>?_⟩
   have hc:c=0:=by omega
   have hl:lo=0:=by simp at h2;omega
   have hh:hi=0:=by simpa using h2
   subst hc hl hh
   exact .tl t f' _ _ (by rw [show tk (0-0) (dr 0 ([]:List t.T))=[] by simp [tk]];exact .uQ _ _ _)
  | sl _ _ _ a cap vs hz hc hf hn hx hl hm FY=>
   rw [oY] at hc hf
   rw [oY]
   refine ⟨_,cap,rfl,hc,hf,fun c k1 k2 k3=>?_⟩
   unfold pJ
   by_cases pU:c=lo
   ·have e1:hi-lo=0:=by omega
    rw [if_pos pU,e1,show c-lo=0 by omega]
    exact .tl t f' _ _ (by rw [show tk 0 (dr lo l)=[] by simp [tk]];exact .uQ _ _ _)
   ·rw [if_neg pU]
    cases a with
    | none=>have:=hn rfl;omega
    | some p=>
     have hlen:(tk (hi-lo) (dr lo l)).length=hi-lo:=by simp [tk,dr];omega
     have D6:=xI (f:=dw t) (fun x=>eI t x) l lo (hi-lo)
     rw [Me] at hl FY
     have e2:((tk (hi-lo) (dr lo l)).map (dw t)).flatten=((l.flatMap (dw t)).drop (lo*t.size)).take ((hi-lo)*t.size):=by rw [kI,D6];rfl
     have:=VD.sl (M:=g.mem) t.size f' ((tk (hi-lo) (dr lo l)).map (dw t)) (some (p.1,p.2+lo*t.size)) (c-lo) ((vs.drop (lo*t.size)).take ((hi-lo)*t.size))
      (fun e he=>by obtain ⟨x,_,rfl⟩:=List.mem_map.1 he;exact eI t x) (by rw [zH,hlen];omega) (fun h=>by rw [zH,hlen,k3 h]) (fun h=>by cases h) (by omega)
      (by rw [e2];simp only [List.length_take,List.length_drop,hl])
      (fun q j x hq hj=>by
       cases hq
       rw [List.getElem?_take] at hj
       split at hj
       ·rw [List.getElem?_drop] at hj
        have:=hm p _ x rfl hj
        rw [←Nat.add_assoc] at this;exact this
       ·cases hj)
      (fun j d x hj W7=>by
       rw [e2] at hj
       rw [List.getElem?_take] at hj W7
       split at hj
       ·rename_i fe
        rw [if_pos fe] at W7
        rw [List.getElem?_drop] at hj W7
        exact FY _ d x hj W7
       ·cases hj)
     rw [zH,hlen] at this
     have e3:Option.map (fun x:Addr=>x.add (lo*t.size)) (Option.map Xk (some p))=Option.map Xk (some (p.1,p.2+lo*t.size)):=congrArg some (Addr.add_lit _ _ _)
     rw [e3]
     exact .tl t f' _ _ this
section
variable {P:Program} {E:Env} {o:Oper} {ρ:Operand→A} {h:H} {β:Type} {K:A→H→Fp→Option β} {r:β}
def BO (ox:Option A) (d:Nat) (k:Nat→Option β):Option β:=match ox with
 | none=>k d
 | some (.v (.int _ m))=>gd (bw m) (k (nN m))
 | _=>none
theorem jR {x:Option Operand} {d:Nat} {k:Nat→Option β} (hr:BO (x.map ρ) d k=some r):∃n,k n=some r∧Bd ρ d x n:=by
 unfold BO at hr
 split at hr
 ·rename_i hx
  cases x with
  | none=>exact ⟨d,hr,rfl⟩
  | some y=>cases hx
 ·rename_i kd m hx
  cases x with
  | none=>cases hx
  | some y=>
   obtain ⟨h1,h2⟩:=bq hr
   refine ⟨_,h2,kd,?_⟩
   rw [mO h1]
   exact Option.some.inj hx
 ·cases hr
theorem V.JG {g:G} {S:Hp} {w:World} (hI:Inv g S w) {X:Ref} {t:Ty} {l:List t.T} (h0:0<t.size) (ho:S.ob X.id=some (.cells (l.flatMap (aA t)))) {v:Value} (hv:V g (.tw X t.size) v) {lo hi:Nat} (h1:lo≤hi) (h2:hi≤l.length) :
  ∃ad cap,v = .slice ad l.length cap∧l.length≤cap∧V g (.ts X t.size lo (hi-lo)) (pJ ad t.size lo hi cap)∧V g (.tf X t.size lo (hi-lo)) (pJ ad t.size lo hi hi):=by
 have hlen:=bg t l
 rcases hv.qb hI h0 ho with ⟨ad,bF,rfl,rfl⟩ | ⟨b,s,cap,d,bF,rfl,k2,k3,k4,k5⟩
 ·have hh:hi=0:=by simpa using h2
  have hl:lo=0:=by omega
  subst hh hl
  exact ⟨ad,0,rfl,Nat.le_refl _,.sc X t.size 0 _ ad bF rfl,.Ct X t.size 0 _ ad bF rfl⟩
 ·have hs:s.1=l.length*t.size:=by
   rcases hI.cells _ _ ho with ⟨k1,_⟩ | ⟨b',Gi,k1,_⟩
   ·rw [k1] at bF;cases bF
   rw [k1] at bF
   simp only [zI,zU] at bF
   obtain ⟨_,rfl⟩:=bF
   exact hlen
  have kf:(lo+(hi-lo))*t.size≤s.1:=by rw [hs];exact zW _ (by omega)
  refine ⟨_,cap,rfl,k3,?_,?_⟩
  ·unfold pJ
   by_cases hc:cap=lo
   ·rw [if_pos hc]
    refine .ts X t.size lo (hi-lo) b (cap-lo) s bF (by omega) (by omega) kf ?_ d (fun h=>by omega) ?_
    ·rw [show lo+(cap-lo)=cap by omega];exact k5
    ·rw [show lo+(cap-lo)=cap by omega,hs];exact zW _ k3
   ·rw [if_neg hc,Option.map_some,Addr.add_lit]
    have hd:=k2 (by omega)
    refine .ts X t.size lo (hi-lo) b (cap-lo) s bF (by omega) (by omega) kf ?_ _ (fun _=>by omega) ?_
    ·rw [show lo+(cap-lo)=cap by omega];exact k5
    ·rw [show lo+(cap-lo)=cap by omega,hs];exact zW _ k3
  ·unfold pJ
   by_cases hc:hi=lo
   ·rw [if_pos hc]
    exact .tf X t.size lo (hi-lo) b s bF (by omega) kf d (fun h=>by omega)
   ·rw [if_neg hc,Option.map_some,Addr.add_lit]
    have hd:=k2 (by omega)
    exact .tf X t.size lo (hi-lo) b s bF (by omega) kf _ (fun _=>by omega)
theorem V.PX {g:G} {S:Hp} {w:World} (hI:Inv g S w) {X:Ref} {t:Ty} {l:List t.T} (h0:0<t.size) (ho:S.ob X.id=some (.cells (l.flatMap (aA t)))) {off n:Nat} {v:Value} (hv:V g (.ts X t.size off n) v) {lo hi:Nat} (h1:lo≤hi) (h2:off+hi≤l.length) :
  ∃ad cap,v = .slice ad n cap∧hi≤cap∧V g (.ts X t.size (off+lo) (hi-lo)) (pJ ad t.size lo hi cap)∧V g (.tf X t.size (off+lo) (hi-lo)) (pJ ad t.size lo hi hi):=by
 have hlen:=bg t l
 cases hv with
 | sc _ _ _ _ ad bF hn=>
  rcases hI.cells _ _ ho with ⟨_,k2⟩ | ⟨b',Gi,k1,_⟩
  ·rw [k2] at hlen
   have hl:l.length=0:=by
    rcases Nat.eq_zero_or_pos l.length with h | h
    ·exact h
    ·have:0<l.length*t.size:=Nat.mul_pos h h0
     simp at hlen;omega
   have hh:hi=0:=by omega
   have hl:lo=0:=by omega
   have hof:off=0:=by omega
   have S6:n=0:=by omega
   subst hh hl hof S6
   exact ⟨ad,0,rfl,Nat.le_refl _,.sc X t.size _ _ ad bF rfl,.Ct X t.size _ _ ad bF rfl⟩
  ·rw [k1] at bF;cases bF
 | ts _ _ _ _ b cap s bF hn hx hs hp d hd hq=>
  have Nv:s.1=l.length*t.size:=by
   rcases hI.cells _ _ ho with ⟨k1,_⟩ | ⟨b',Gi,k1,_⟩
   ·rw [k1] at bF;cases bF
   rw [k1] at bF
   simp only [zI,zU] at bF
   obtain ⟨_,rfl⟩:=bF
   exact hlen
  have aga:l.length≤off+cap:=by rw [Nv] at hq;exact Nat.le_of_mul_le_mul_right hq h0
  have kf:(off+lo+(hi-lo))*t.size≤s.1:=by rw [Nv];exact zW _ (by omega)
  refine ⟨_,cap,rfl,by omega,?_,?_⟩
  ·unfold pJ
   by_cases hc:cap=lo
   ·rw [if_pos hc]
    refine .ts X t.size (off+lo) (hi-lo) b (cap-lo) s bF (by omega) (by omega) kf ?_ d (fun h=>by omega) ?_
    ·rw [show off+lo+(cap-lo)=off+cap by omega];exact hp
    ·rw [show off+lo+(cap-lo)=off+cap by omega];exact hq
   ·rw [if_neg hc,Option.map_some,Addr.add_lit]
    have hd:=hd (by omega)
    refine .ts X t.size (off+lo) (hi-lo) b (cap-lo) s bF (by omega) (by omega) kf ?_ _ (fun _=>by rw [hd,Nat.add_mul]) ?_
    ·rw [show off+lo+(cap-lo)=off+cap by omega];exact hp
    ·rw [show off+lo+(cap-lo)=off+cap by omega];exact hq
  ·unfold pJ
   by_cases hc:hi=lo
   ·rw [if_pos hc]
    exact .tf X t.size (off+lo) (hi-lo) b s bF (by omega) kf d (fun h=>by omega)
   ·rw [if_neg hc,Option.map_some,Addr.add_lit]
    have hd:=hd (by omega)
    exact .tf X t.size (off+lo) (hi-lo) b s bF (by omega) kf _ (fun _=>by rw [hd,Nat.add_mul])
def CA (E:Env) (T:Nat) (px:A) (lo hi mx:Option A) (same:Bool) (h:H) (K:A→H→Fp→Option β):Option β:=match cq E.dJ T with
 | some ⟨.slice el,_,_,_,_,_,_⟩=>match cq E.dJ el with
  | some e=>match px with
   | .e0=>BO lo 0 (fun l=>BO hi 0 (fun n=>gd (bp l n) (gd (bp n 0) (match mx with
    | none=>K .e0 h (.rd [])
    | some _=>bif same && hi.isSome then K .e0 h (.rd []) else none))))
   | .tl t f x=>bif Nat.beq e.size t.size then BO lo 0 (fun l=>BO hi (len x) (fun n=>gd (bp l n) (gd (bp n (len x)) (match mx with
    | none=>K (.tl t (f && hi.isNone) (tk (az n l) (dr l x))) h .no
    | some _=>bif same && hi.isSome then K (.tl t true (tk (az n l) (dr l x))) h .no else none)))) else none
   | .tw X z=>iZ h X (fun t x=>bif Nat.beq z e.size && Nat.beq z t.size && Nat.blt 0 z then BO lo 0 (fun l=>BO hi (len x) (fun n=>gd (bp l n) (gd (bp n (len x)) (match mx with
    | none=>K (.ts X z l (az n l)) h (.rd [iz X])
    | some _=>bif same && hi.isSome then K (.tf X z l (az n l)) h (.rd [iz X]) else none)))) else none)
   | .ts X z off m=>iZ h X (fun t x=>bif Nat.beq z e.size && Nat.beq z t.size && Nat.blt 0 z then BO lo 0 (fun l=>BO hi m (fun n=>gd (bp l n) (gd (bp (aK off n) (len x)) (match mx with
    | none=>K (.ts X z (aK off l) (az n l)) h (.rd [iz X])
    | some _=>bif same && hi.isSome then K (.tf X z (aK off l) (az n l)) h (.rd [iz X]) else none)))) else none)
   | _=>none
  | none=>none
 | some ⟨.array n el,_,_,_,_,_,_⟩=>match cq E.dJ el with
  | some e=>bif lo.isNone && hi.isNone && mx.isNone && Nat.ble n 16777216 then (match px with
   | .tp X π=>K (.aa X π n e.size) h .no
   | .ptr q off=>match h.t.get q with
    | some (.cells cs)=>bif Nat.blt q 16777216 && Nat.ble (off+n*e.size) cs.length then K (.sl q off e.size n) h (.rd [dk q]) else none
    | _=>none
   | _=>none) else none
  | none=>none
 | _=>none
theorem isNone_map {x:Option Operand} (h:(x.map ρ).isNone=true):x=none:=by cases x with | none=>rfl | some y=>cases h
theorem isSome_map {x:Option Operand} (h:(x.map ρ).isSome=true):∃y,x=some y:=by cases x with | none=>cases h | some y=>exact ⟨y,rfl⟩
theorem pS {S:Hp} {T E':TypeId} {x:Operand} {lo hi mx:Option Operand} {z l n d:Nat} {pv pw:A} (ho:o.op = .slice T x lo hi mx) (hT:P.underlying T=some (.slice E')) (hE:eC P E' z) (tS:Bd ρ 0 lo l) (tT:Bd ρ d hi n) (h1:l≤n)
  (hr:∀g w v,Inv g S w→V g (ρ x) v→∃ad cap,v = .slice ad d cap∧n≤cap∧(mx=none→V g pv (pJ ad z l n cap))∧(mx=hi→V g pw (pJ ad z l n n))):(mx=none→eM P o ρ S S pv)∧(mx=hi→hi≠none→eM P o ρ S S pw):=
 ⟨fun hm=>by
  subst hm
  exact AS ho hT hE tS h1 (fun g w v hI hv=>let ⟨ad,cap,k1,k2,k3,_⟩:=hr g w v hI hv;⟨ad,d,cap,k1,tT,k2,k3 rfl⟩),
 fun hm hn=>by
  subst hm
  cases KE:mx with
  | none=>exact absurd KE hn
  | some y=>
   subst KE
   exact qB (hi:=y) (mx:=y) ho hT hE tS tT tT h1 (Nat.le_refl _) (fun g w v hI hv=>let ⟨ad,cap,k1,k2,_,k4⟩:=hr g w v hI hv;⟨ad,d,cap,k1,k2,k4 rfl⟩)⟩
theorem sX (hE:bR P E) {T:Nat} {x:Operand} {lo hi mx:Option Operand} {same:Bool} (ho:o.op = .slice T x lo hi mx) (hs:same=true→mx=hi) (hr:CA E T (ρ x) (lo.map ρ) (hi.map ρ) (mx.map ρ) same h K=some r):Out P o ρ h K r:=by
 have hd:∀c,o.op≠.defer c:=by rw [ho];intro c e;cases e
 unfold CA at hr
 split at hr
 ·rename_i el _ _ _ _ _ _ ht
  have hT:=(hE.dJ _ _ ht).u
  split at hr
  ·rename_i e he
   have hz:=(hE.dJ _ _ he).ti.size
   have fin:∀{T':List Nat} {pv pw:A} {Sx:Hp→Prop},(∀S2,Agree (.rd T') (hp h) S2→(mx=none→eM P o ρ S2 S2 pv)∧(mx=hi→hi≠none→eM P o ρ S2 S2 pw))→(match mx.map ρ with | none=>K pv h (.rd T') | some _=>bif same && (hi.map ρ).isSome then K pw h (.rd T') else none)=some r→Out P o ρ h K r:=fun {T' pv pw Sx} k hr=>by
    cases hm:mx with
    | none=>
     rw [hm] at hr
     exact .read _ hr (fun S2 hA=>(k S2 hA).1 hm) hd
    | some y=>
     rw [hm] at hr
     obtain ⟨h1,hr⟩:=ah hr
     simp only [zC] at h1
     obtain ⟨y',xt⟩:=isSome_map h1.2
     exact .read _ hr (fun S2 hA=>(k S2 hA).2 (hs h1.1) (by rw [xt];intro h;cases h)) hd
   split at hr
   ·rename_i hx
    obtain ⟨l,hr,tS⟩:=jR hr
    obtain ⟨n,hr,tT⟩:=jR hr
    obtain ⟨h1,hr⟩:=bq hr
    obtain ⟨h2,hr⟩:=bq hr
    have h1:l≤n:=h1
    have h2:n≤0:=h2
    have hn:n=0:=by omega
    have hl:l=0:=by omega
    subst hn hl
    exact fin (T':=[]) (Sx:=fun _=>True) (fun S2 _=>pS (pw:=.e0) ho hT hz tS tT h1 (fun g w v hI hv=>by
     rw [hx] at hv
     cases hv with
     | e0 ad=>exact ⟨ad,0,rfl,Nat.le_refl _,fun _=>.e0 _,fun _=>.e0 _⟩)) hr
   ·rename_i t f x' hx
    obtain ⟨hq,hr⟩:=ah hr
    have hq:=beq_eq hq
    obtain ⟨l,hr,tS⟩:=jR hr
    obtain ⟨n,hr,tT⟩:=jR hr
    obtain ⟨h1,hr⟩:=bq hr
    obtain ⟨h2,hr⟩:=bq hr
    have h1:l≤n:=h1
    have h2:n≤x'.length:=h2
    refine fin (T':=[]) (Sx:=fun _=>True) (fun S2 _=>pS ho hT hz tS tT h1 (fun g w v hI hv=>?_)) hr
    rw [hx] at hv
    obtain ⟨ad,cap,k1,k2,k3,_⟩:=hv.wS (f':=f && (hi.map ρ).isNone) h1 h2
    refine ⟨ad,cap,k1,by omega,fun hm=>?_,fun _=>?_⟩
    ·obtain ⟨ad',abu,j1,j2,j3,j4⟩:=hv.wS (f':=f && (hi.map ρ).isNone) h1 h2
     rw [k1] at j1;cases j1
     rw [hq]
     refine j4 cap (by omega) (Nat.le_refl _) (fun hf=>?_)
     simp only [zC] at hf
     have hh:=isNone_map hf.2
     subst hh
     have:n=len x':=tT
     rw [k3 hf.1,this];rfl
    ·obtain ⟨ad',abu,j1,j2,j3,j4⟩:=hv.wS (f':=true) h1 h2
     rw [k1] at j1;cases j1
     rw [hq]
     exact j4 n (Nat.le_refl _) (by omega) (fun _=>rfl)
   ·rename_i X z hx
    obtain ⟨t,x',hr,hX,eN⟩:=eF hr
    obtain ⟨hq,hr⟩:=ah hr
    simp only [zC] at hq
    have Nw:=beq_eq hq.1.1
    have D5:=beq_eq hq.1.2
    have h0:=ba hq.2
    obtain ⟨l,hr,tS⟩:=jR hr
    obtain ⟨n,hr,tT⟩:=jR hr
    obtain ⟨h1,hr⟩:=bq hr
    obtain ⟨h2,hr⟩:=bq hr
    have h1:l≤n:=h1
    have h2:n≤x'.length:=h2
    refine fin (T':=[iz X]) (Sx:=fun _=>True) (fun S2 hA=>pS ho hT hz tS tT h1 (fun g w v hI hv=>?_)) hr
    have dU:=(hA _ (bC hX (.head _))).1.trans eN
    rw [hx,D5] at hv
    obtain ⟨ad,cap,k1,k2,k3,k4⟩:=hv.JG hI (by omega) dU h1 h2
    rw [←D5] at k3 k4
    rw [←Nw]
    exact ⟨ad,cap,k1,by omega,fun _=>k3,fun _=>k4⟩
   ·rename_i X z off m hx
    obtain ⟨t,x',hr,hX,eN⟩:=eF hr
    obtain ⟨hq,hr⟩:=ah hr
    simp only [zC] at hq
    have Nw:=beq_eq hq.1.1
    have D5:=beq_eq hq.1.2
    have h0:=ba hq.2
    obtain ⟨l,hr,tS⟩:=jR hr
    obtain ⟨n,hr,tT⟩:=jR hr
    obtain ⟨h1,hr⟩:=bq hr
    obtain ⟨h2,hr⟩:=bq hr
    have h1:l≤n:=h1
    have h2:off+n≤x'.length:=h2
    refine fin (T':=[iz X]) (Sx:=fun _=>True) (fun S2 hA=>pS ho hT hz tS tT h1 (fun g w v hI hv=>?_)) hr
    have dU:=(hA _ (bC hX (.head _))).1.trans eN
    rw [hx,D5] at hv
    obtain ⟨ad,cap,k1,k2,k3,k4⟩:=hv.PX hI (by omega) dU h1 h2
    rw [←D5] at k3 k4
    rw [←Nw]
    exact ⟨ad,cap,k1,k2,fun _=>k3,fun _=>k4⟩
   ·cases hr
  ·cases hr
 ·rename_i n el _ _ _ _ _ _ ht
  have hT:=(hE.dJ _ _ ht).u
  split at hr
  ·rename_i e he
   have hz:=(hE.dJ _ _ he).ti.size
   obtain ⟨h1,ng⟩:=ah hr
   clear hr
   simp only [zC] at h1
   have e1:=isNone_map h1.1.1.1
   have e2:=isNone_map h1.1.1.2
   have e3:=isNone_map h1.1.2
   have hn:=Nat.le_of_ble_eq_true h1.2
   clear h1
   subst e1 e2 e3
   split at ng
   ·rename_i X π hx
    exact .pure ng (fun S2=>mM ho hT ⟨_,hz⟩ (fun g w v hI hv=>by
     rw [hx] at hv
     cases hv with
     | tp _ _ b s bF hk=>exact ⟨b,_,rfl,.aa X π n e.size b n s bF hk (Nat.le_refl _) (by unfold maxLen;omega)⟩)) hd
   ·rename_i q off hx
    split at ng
    ·rename_i cs hg
     obtain ⟨h2,ng⟩:=ah ng
     simp only [zC] at h2
     have hq:=ba h2.1
     have h3:=Nat.le_of_ble_eq_true h2.2
     have eN:(hp h).ob q=some (.cells cs):=by rw [jM hq];unfold fh;rw [hg];rfl
     exact .read _ ng (fun S2 hA=>mM ho hT ⟨_,hz⟩ (fun g w v hI hv=>by
      rw [hx] at hv
      cases hv with
      | ptr _ _ b s bF=>
       have hs:s.1=cs.length:=by
        rcases hI.cells _ _ ((hA q (aB hq (.head _))).1.trans eN) with ⟨k1,_⟩ | ⟨b',Gi,k1,_⟩
        ·rw [k1] at bF;cases bF
        rw [k1] at bF
        simp only [zI,zU] at bF
        obtain ⟨_,rfl⟩:=bF
        rfl
       exact ⟨b,off,rfl,.sl q off e.size n b n s bF (Nat.le_refl _) (by unfold maxLen;omega) (by rw [hs];exact h3)⟩)) hd
    ·cases ng
   ·cases ng
  ·cases hr
 ·cases hr
end
end
section
open Go.RowKit
section
variable {P:Program} {E:Env} {o:Oper} {ρ:Operand→A} {h:H} {β:Type} {K:A→H→Fp→Option β} {r:β}
theorem Step.put {h1:H} {X:Ref} {x:Ob} {T1:List Nat} {pv:A} (hd:∀c,o.op≠.defer c) (hX:A6 X=true) (k2:wz h h1 X x) (AI:∀(g:G) (S:Hp) (w:World) (a:Act),Inv g S w→(∀x∈o.op.operands,V g (ρ x) (a.eval x))→g.bl X.id≠none)
  (k:∀S2,Agree (.pt (iz X) T1) (hp h) S2→eM P o ρ S2 (S2.set X.id x) pv):Step P o ρ h h1 (.pt (iz X) T1) pv where
 out:=fun i hi=>k2.1 i (by
  have hi:(false || (iz X::T1).any (Nat.beq (res i)))=false:=hi
  rw [List.any_cons,Bool.or_eq_false_iff,Bool.or_eq_false_iff] at hi
  show (false || [iz X].any (Nat.beq (res i)))=false
  rw [List.any_cons,hi.2.1];rfl)
 rd:=fun i hi=>k2.1 i (by simpa [wt,touch,Fp.pt,Fp.wr] using hi)
 ok:=fun S2 hA=>by
  refine eM.Kj (eM.bl fun g w a hI hv=>?_) hd
  have W_:touch (.pt (iz X) T1) X.id=true:=bC hX (.head _)
  have S9:¬(hp h).fr X.id:=fun hf=>AI g S2 w a hI hv (hI.fresh _ ((hA _ W_).2.2 hf))
  rw [k2.2 S9,gI (fun u hu=>by rcases zF.1 hu with rfl;exact W_) hA]
  exact k S2 hA
theorem V.atw {g:G} {X:Ref} {z:Nat} {v:Value} (hv:V g (.tw X z) v):g.bl X.id≠none:=by cases hv<;>simp_all
theorem V.ats {g:G} {X:Ref} {z off n:Nat} {v:Value} (hv:V g (.ts X z off n) v):g.bl X.id≠none:=by cases hv<;>simp_all
def E4 (E:Env) (T:Nat) (px py:A) (h:H) (K:A→H→Fp→Option β):Option β:=match xo E T with
 | some el=>match cq E.dJ el with
  | some e=>match e.t,px with
   | some t,.tw X z=>bif Nat.blt 0 e.size then wV h t py (fun l T1=>iZ h X (fun t' l0=>match fp (.aI t') (.aI t) l0 with
    | some l0=>bif Nat.beq z e.size then gd (bD 0 (len (α:=t.T) l0)) (gd (bp (len l) (len (α:=t.T) l0)) (qz h X t (cat l (dr (α:=t.T) (len l) l0)) (fun h1=>K (.v (.int .i64 (zN (len l)))) h1 (.pt (iz X) T1)))) else none
    | none=>none)) else none
   | _,_=>none
  | none=>none
 | none=>none
theorem E3 (hE:bR P E) {T T':Nat} {x y:Operand} (ho:o.op = .call { callee:=.builtin .copy,args:=#[x,y],argTypes:=#[T,T'] }) (hr:E4 E T (ρ x) (ρ y) h K=some r):Out P o ρ h K r:=by
 have hd:∀c,o.op≠.defer c:=by rw [ho];intro c e;cases e
 unfold E4 at hr
 split at hr
 ·rename_i el he
  split at hr
  ·rename_i e ht
   have hk:=hE.dJ _ _ ht
   split at hr
   ·rename_i t X z wH hx
    have mQ:=hk.ts t wH
    obtain ⟨h0,hr⟩:=ah hr
    have h0:=ba h0
    obtain ⟨l,T1,hr,tP⟩:=sV hr
    obtain ⟨t',l0,hr,hX,eN⟩:=eF hr
    split at hr
    ·rename_i WO hl
     obtain ⟨e',rfl⟩:=ck hl
     cases e'
     obtain ⟨hz,hr⟩:=ah hr
     have hz:=beq_eq hz
     obtain ⟨h1,hr⟩:=bq hr
     have h1:0<l0.length:=h1
     obtain ⟨h2,hr⟩:=bq hr
     have h2:l.length≤l0.length:=h2
     obtain ⟨h',k1,k2⟩:=mi hX hr
     refine ⟨_,_,_,k1,.put hd hX k2 (fun g S w a hI hv=>?_) (fun S2 hA=>?_)⟩
     ·have hv:=hv x (by simp [ho,Op.operands,Call.operands])
      rw [hx] at hv
      exact hv.atw
     ·have dU:=(hA _ (bC hX (.head _))).1.trans eN
      have:=Dj (P:=P) (ρ:=ρ) (n:=l0.length) (m:=l.length) (off:=0) (z:=e.size) ho (nU hE he) hk.ti.size (fun g w v hI hv=>by
       rw [hx,hz,←mQ] at hv
       rcases hv.qb hI (by rw [mQ];exact h0) dU with ⟨ad,_,rfl,rfl⟩ | ⟨b,s,cap,d,bF,rfl,k2,k3,k4,k5⟩
       ·simp at h1
       ·exact ⟨b,s,cap,d,bF,rfl,fun _=>k2 (by omega)⟩) dU (by rw [bg,mQ];omega) (by have:=tP S2 (hA.mono fun i hi=>.tail _ hi);rwa [mQ] at this) h2
      have e2:put (l0.flatMap (aA t)) 0 (l.flatMap (aA t))=(cat l (dr (len l) l0)).flatMap (aA t):=by
       rw [iQ,t_]
       unfold put
       rw [bg,List.take_zero,List.nil_append,Nat.zero_add];rfl
      rw [e2] at this
      exact this
    ·cases hr
   ·cases hr
  ·cases hr
 ·cases hr
def MR (E:Env) (T:Nat) (px:A) (h:H) (K:A→H→Fp→Option β):Option β:=match xo E T with
 | some el=>match cq E.dJ el with
  | some e=>match e.t,px with
   | some t,.ts X z off n=>bif Nat.blt 0 e.size then iZ h X (fun t' l0=>match fp (.aI t') (.aI t) l0 with
    | some l0=>bif Nat.beq z e.size then gd (bD 0 n) (qz h X t (cat (tk (α:=t.T) off l0) (cat (rep n t.cF) (dr (α:=t.T) (aK off n) l0))) (fun h1=>K .cD h1 (.wr [iz X]))) else none
    | none=>none) else none
   | _,_=>none
  | none=>none
 | none=>none
theorem Ic (hE:bR P E) {T:Nat} {x:Operand} (ho:o.op = .call { callee:=.builtin .clear,args:=#[x],argTypes:=#[T] }) (hr:MR E T (ρ x) h K=some r):Out P o ρ h K r:=by
 have hd:∀c,o.op≠.defer c:=by rw [ho];intro c e;cases e
 unfold MR at hr
 split at hr
 ·rename_i el he
  split at hr
  ·rename_i e ht
   have hk:=hE.dJ _ _ ht
   split at hr
   ·rename_i t X z off n wH hx
    have mQ:=hk.ts t wH
    obtain ⟨h0,hr⟩:=ah hr
    have h0:=ba h0
    obtain ⟨t',l0,hr,hX,eN⟩:=eF hr
    split at hr
    ·rename_i WO hl
     obtain ⟨e',rfl⟩:=ck hl
     cases e'
     obtain ⟨hz,hr⟩:=ah hr
     have hz:=beq_eq hz
     obtain ⟨h1,hr⟩:=bq hr
     have h1:0<n:=h1
     obtain ⟨h',k1,k2⟩:=mi hX hr
     refine ⟨_,_,_,k1,.put hd hX k2 (fun g S w a hI hv=>?_) (fun S2 hA=>eM.bl fun g0 w0 a0 TA B2=>?_)⟩
     ·have hv:=hv x (by simp [ho,Op.operands,Call.operands])
      rw [hx] at hv
      exact hv.ats
     ·have dU:=(hA _ (bC hX (.head _))).1.trans eN
      have hle:off+n≤l0.length:=by
       have hv:=B2 x (by simp [ho,Op.operands,Call.operands])
       rw [hx,hz,←mQ] at hv
       exact sb TA (by rw [mQ];exact h0) dU hv
      have:=AX (P:=P) (ρ:=ρ) (n:=n) (off:=off*e.size) (z:=e.size) ho (nU hE he) hk.ti h0 (hk.tz t wH) (fun g w v hI hv=>by
       rw [hx,hz] at hv
       cases hv with
       | sc _ _ _ _ _ _ hn=>omega
       | ts _ _ _ _ b cap s bF hn _ _ _ d mE=>exact ⟨b,s,cap,d,bF,rfl,fun _=>mE (by omega)⟩) h1 dU (by rw [bg,mQ,←Nat.add_mul];exact zW _ hle)
      have e2:put (l0.flatMap (aA t)) (off*e.size) (oM n (aA t t.cF))=(cat (tk off l0) (cat (rep n t.cF) (dr (aK off n) l0))).flatMap (aA t):=by
       rw [iQ,iQ,tZ,t_,u0,mQ]
       unfold put
       rw [jI,bG,mQ,←Nat.add_mul];rfl
      rw [e2] at this
      exact this
    ·cases hr
   ·cases hr
  ·cases hr
 ·cases hr
def Np (mx:Bool) (px py:A) (h:H) (K:A→H→Fp→Option β):Option β:=match px,py with
 | .v (.int k m),.v (.int k' n)=>if k=k' then K (.v (.int k (bif mx then imax m n else DX m n))) h .no else none
 | _,_=>none
theorem He {Ts:Array TypeId} {x y:Operand} (ho:o.op = .call { callee:=.builtin .max,args:=#[x,y],argTypes:=Ts }) (hr:Np true (ρ x) (ρ y) h K=some r):Out P o ρ h K r:=by
 unfold Np at hr
 split at hr
 ·rename_i k m k' n hx hy
  split at hr
  ·rename_i hk;subst hk
   exact .pure hr (fun S2=>GW ho hx hy) (by rw [ho];intro c e;cases e)
  ·cases hr
 ·cases hr
theorem Hd {Ts:Array TypeId} {x y:Operand} (ho:o.op = .call { callee:=.builtin .min,args:=#[x,y],argTypes:=Ts }) (hr:Np false (ρ x) (ρ y) h K=some r):Out P o ρ h K r:=by
 unfold Np at hr
 split at hr
 ·rename_i k m k' n hx hy
  split at hr
  ·rename_i hk;subst hk
   exact .pure hr (fun S2=>GV ho hx hy) (by rw [ho];intro c e;cases e)
  ·cases hr
 ·cases hr
def SA (f:FuncId) (fi ca:List A) (h:H) (K:A→H→Fp→Option β):Option β:=K (.fn f fi ca) h .no
theorem Hg {f:FuncId} {fi ca:Array Operand} (ho:o.op = .makeFunc (.func f) fi ca) (hr:SA f (fi.toList.map ρ) (ca.toList.map ρ) h K=some r):Out P o ρ h K r:=
 .pure hr (fun S2=>tr ho) (by rw [ho];intro c e;cases e)
end
end
section
open Go.RowKit
section
variable {P:Program} {E:Env} {o:Oper} {ρ:Operand→A} {S:Hp}
def Bg (es:List (A×A)) (n:Nat) (v:A):List (A×A):=es.modify n fun e=>(e.1,v)
theorem Di (hE:bR P E) {T K T2:Nat} {X:Ref} {x y z:Operand} {e:cp} {es:List (A×A)} {vz:A} {n:Nat} {old:A} (ho:o.op = .mapUpdate T x y z) (hT:P.underlying T=some (.map K T2)) (he:cq E.dJ K=some e) (ht:lu E e.d=true) {b:Bool} (hs:iP E K e.d (ρ y) (ρ y)=some b)
  (hx:ρ x = .mp X) (hm:S.ob X.id=some (.cN (.map es))) (Ns:∀g v,V g (ρ z) v→V g vz v) (hr:kJ (iP E K e.d (ρ y)) es 0=some (some (n,old)))
  (Zc:∀g v q v',es[n]?=some q→V g (ρ y) v→V g q.1 v'→v'=v∧Instr.sameBits 10000 v v=true):eM P o ρ S (S.set X.id (.cN (.map (Bg es n vz)))) .cD:=by
 intro g w a next Q hI hv K'
 have e1:=hx▸hv x (by simp [ho,Op.operands])
 have e2:=hv y (by simp [ho,Op.operands])
 have e3:=hv z (by simp [ho,Op.operands])
 obtain ⟨B9,s,jb,clock,h1,h2,h3,h4⟩:=e1.tD hI hm
 have hc:=mw hE w false he ht hs e2
 rcases h4.find (w:=w) hE he e2 hr with ⟨hh,_⟩ | ⟨n',p,x',hh,oV,_,hn,hf⟩
 ·cases hh
 cases hh
 obtain ⟨q,hq⟩:∃q,es[n]?=some q:=⟨_,zD hn⟩
 obtain ⟨k1,k2⟩:=Zc g _ q _ hq e2 (h4.2 n x' q oV hq).1
 have Eh:ry g (jb.modify n fun e=>{ e with key:=a.eval y,val:=a.eval z }) (Bg es n vz):=by
  refine ⟨by simp [Bg,h4.1],fun m c r hy hz=>?_⟩
  unfold Bg at hz
  rw [List.getElem?_modify] at hz
  rw [Array.getElem?_modify] at hy
  by_cases hmn:n=m
  ·subst hmn
   simp only [if_true,oV,hq,Option.map_some,Option.map_eq_map,zI] at hy hz
   subst hy hz
   exact ⟨by rw [←k1];exact (h4.2 n x' q oV hq).1,Ns _ _ e3⟩
  ·simp only [if_neg hmn,Option.map_eq_map,Option.map_id'] at hy hz
   exact h4.2 m c r hy hz
 obtain ⟨q1,q2⟩:=hI.sY (clock':=clock) hm h2 h3 Eh
 have yZ:(Instr.keyThatStays (((jb[n]?).map (·.key)).getD (a.eval y)) (a.eval y)).run P w = .ok (a.eval y) w:=by
  rw [oV]
  simp only [Option.map_some,Option.getD_some,k1]
  simp [Instr.keyThatStays,k2]
 have eH:(Instr.mapUpdate T (.map (some B9)) (a.eval y) (a.eval z)).run P w = .ok () { w with heap:=w.heap.setIfInBounds B9 (.map (jb.modify n fun e=>{ e with key:=a.eval y,val:=a.eval z }) clock) }:=by
  simp only [Instr.mapUpdate,Sem.run_bind,run_underlying hT,Result.andThen_ok,MapKept.run_getObj_map h3,hc,hf,yZ,MapKept.run_setObj_map _ h3]
 unfold Oper.wp
 simp only [execOp,ho,h1,Sem.run_bind,eH,Result.andThen_ok,Sem.run_pure]
 exact K' _ g _ (.cD _) q1 q2
end
def sF {β:Type} (f:A→Option Bool):List (A×A)→Nat→(Option (Nat×A)→Option β)→Option β
 | [],_,K=>K none
 | (k,v)::r,i,K=>match f k with
  | some b=>br b (K (some (i,v))) (sF f r (i+1) K)
  | none=>none
theorem oe {β:Type} {f:A→Option Bool} {r:β}:∀(es:List (A×A)) (i:Nat) (K:Option (Nat×A)→Option β),sF f es i K=some r→∃x,K x=some r∧kJ f es i=some x
 | [],i,K,h=>⟨none,h,rfl⟩
 | (k,v)::es,i,K,h=>by
  unfold sF at h
  split at h
  ·rename_i b hb
   rcases kh h with ⟨rfl,h1⟩ | ⟨rfl,h1⟩
   ·exact ⟨_,h1,by unfold kJ;rw [hb]⟩
   ·obtain ⟨x,k1,k2⟩:=oe es (i+1) K h1
    exact ⟨x,k1,by unfold kJ;rw [hb];exact k2⟩
  ·cases h
def sH:(t:Ty)→t.T→t.T→Bool
 | .int _,x,y=>af x y
 | .pair a b,x,y=>sH a x.1 y.1 && sH b x.2 y.2
 | _,_,_=>false
def FW {κ α:Type} (p:κ→Bool):List (κ×α)→Nat→Option (Nat×α)
 | [],_=>none
 | (k,v)::r,i=>bif p k then some (i,v) else FW p r (i+1)
def LO {κ α:Type} (l:List (κ×α)) (n:Nat) (v:α):List (κ×α):=l.modify n fun e=>(e.1,v)
def LQ {κ α:Type} (l:List (κ×α)) (n:Nat):List (κ×α):=l.eraseIdx n
def lS (E:Env) (T:Nat) (k:IntKind):Bool:=match cq E.dJ T with
 | some ⟨.int k',1,_,_,_,_,_⟩=>if k'=k then true else false
 | _=>false
def bY (E:Env):List Field→Nat→Ty→Bool
 | [fd],i,.int k=>Nat.beq fd.offset i && lS E fd.type k
 | fd::fs,i,.pair (.int k) t=>Nat.beq fd.offset i && lS E fd.type k && bY E fs (i+1) t
 | _,_,_=>false
def DK (E:Env) (K:Nat) (e:cp) (ka:Bool) (t:Ty):Bool:=match e.d with
 | .int k=>!ka && (match t with
  | .int k'=>if k'=k then true else false
  | _=>false)
 | .struct fs=>ka && E.eqs.any (Nat.beq K) && bY E fs.toList 0 t
 | _=>false
theorem oS {E:Env} {T:Nat} {k:IntKind} (h:lS E T k=true):∃e,cq E.dJ T=some e∧e.d = .int k∧e.size=1:=by
 unfold lS at h
 split at h
 ·rename_i k' _ _ _ _ _ ht
  split at h
  ·rename_i hk;subst hk;exact ⟨_,ht,rfl,rfl⟩
  ·cases h
 ·cases h
theorem zg {E:Env} {T:Nat} {k:IntKind} {m n:Int} (h:lS E T k=true) (f:Nat):uI E (f+1) T [.v (.int k m)] [.v (.int k n)]=some (af m n):=by
 obtain ⟨e,h1,h2,_⟩:=oS h
 unfold uI
 rw [h1]
 simp only [h2,if_true]
theorem yN {E:Env} (f:Nat):∀(fs:List Field) (i:Nat) (t:Ty),bY E fs i t=true→∀(p q:List A) (x y:t.T),p.length=i→q.length=i→H4 E (uI E (f+1)) fs (p++aA t x) (q++aA t y)=some (sH t x y)
 | [],_,_,h=>by simp [bY] at h
 | [fd],i,.int k,h=>fun p q x y hp hq=>by
  simp only [bY,zC] at h
  have h1:=beq_eq h.1
  obtain ⟨e,e1,e2,e3⟩:=oS h.2
  unfold H4
  rw [e1]
  simp only [e3,h1]
  rw [←hp,List.drop_left,hp,←hq,List.drop_left]
  have:=zg (m:=x) (n:=y) h.2 f
  simp only [aA,List.take_succ_cons,List.take_zero,this,H4]
  simp [sH,l7]
 | fd::fs,i,.pair (.int k) t,h=>fun p q x y hp hq=>by
  have h:(Nat.beq fd.offset i && lS E fd.type k && bY E fs (i+1) t)=true:=by
   cases fs<;>exact h
  simp only [zC] at h
  have h1:=beq_eq h.1.1
  obtain ⟨e,e1,e2,e3⟩:=oS h.1.2
  unfold H4
  rw [e1]
  simp only [e3,h1]
  have ih:=yN f fs (i+1) t h.2 (p++[A.v (.int k x.1)]) (q++[A.v (.int k y.1)]) x.2 y.2 (by simp [hp]) (by simp [hq])
  have ex:∀(p:List A) (x:(Ty.pair (.int k) t).T),p++aA (.pair (.int k) t) x=p++[A.v (.int k x.1)]++aA t x.2:=fun p x=>by
   show p++([A.v (.int k x.1)]++aA t x.2)=_
   rw [List.append_assoc]
  rw [ex,ex,ih]
  have Zr:((p++[A.v (.int k x.1)]++aA t x.2).drop i).take 1=[A.v (.int k x.1)]:=by rw [←hp,List.append_assoc,List.drop_left];rfl
  have hd2:((q++[A.v (.int k y.1)]++aA t y.2).drop i).take 1=[A.v (.int k y.1)]:=by rw [←hq,List.append_assoc,List.drop_left];rfl
  rw [Zr,hd2]
  exact congrArg (fun z:Option Bool=>match z,some (sH t x.2 y.2) with
   | some a,some b=>some (l7 a b)
   | _,_=>none) (zg (m:=x.1) (n:=y.1) h.1.2 f)
 | [_],_,.bool,h=>by simp [bY] at h
 | _::_::_,_,.bool,h=>by simp [bY] at h
 | _::_::_,_,.int _,h=>by simp [bY] at h
 | _::_,_,.unit,h=>by simp [bY] at h
 | _::_,_,.pair .bool _,h=>by simp [bY] at h
 | _::_,_,.pair .unit _,h=>by simp [bY] at h
 | _::_,_,.pair (.pair _ _) _,h=>by simp [bY] at h
 | _::_,_,.pair (.arr _ _) _,h=>by simp [bY] at h
 | _::_,_,.pair (.aI _) _,h=>by simp [bY] at h
 | _::_,_,.pair (.ptr _) _,h=>by simp [bY] at h
 | _::_,_,.pair (.db _) _,h=>by simp [bY] at h
 | _::_,_,.pair (.iX _ _) _,h=>by simp [bY] at h
 | _::_,_,.pair (.oA _ _) _,h=>by simp [bY] at h
 | _::_,_,.pair (.mp _) _,h=>by simp [bY] at h
 | _::_,_,.arr _ _,h=>by simp [bY] at h
 | _::_,_,.aI _,h=>by simp [bY] at h
 | _::_,_,.ptr _,h=>by simp [bY] at h
 | _::_,_,.db _,h=>by simp [bY] at h
 | _::_,_,.iX _ _,h=>by simp [bY] at h
 | _::_,_,.oA _ _,h=>by simp [bY] at h
 | _::_,_,.mp _,h=>by simp [bY] at h
theorem tF {E:Env} {K:Nat} {e:cp} {ka:Bool} {t:Ty} (he:cq E.dJ K=some e) (h:DK E K e ka t=true) (x y:t.T):iP E K e.d (bK ka t x) (bK ka t y)=some (sH t x y):=by
 unfold DK at h
 split at h
 ·rename_i k hd
  cases ka with
  | true=>simp at h
  | false=>
   simp only [Bool.not_false,Bool.true_and] at h
   split at h
   ·split at h
    ·rename_i k' hk
     subst hk
     unfold iP bK
     simp only [hd,cond_false,aA,if_true]
     rfl
    ·cases h
   ·cases h
 ·rename_i fs hd
  simp only [zC] at h
  obtain ⟨⟨rfl,hq⟩,hs⟩:=h
  have h1:=yN 0 fs.toList 0 t hs [] [] x y rfl rfl
  simp only [List.nil_append] at h1
  unfold iP bK
  simp only [hd,cond_true,hP,Bool.and_self,A.cells]
  show uI E 2 K (aA t x) (aA t y)=some (sH t x y)
  unfold uI
  rw [he]
  simp only [hd,hq,cond_true]
  exact h1
 ·cases h
theorem j9 {E:Env} {K:Nat} {e:cp} {ka va:Bool} {t tv:Ty} (he:cq E.dJ K=some e) (h:DK E K e ka t=true) (x:t.T):∀(es:List (t.T×tv.T)) (i:Nat),
  kJ (iP E K e.d (bK ka t x)) (es.map fun e=>(bK ka t e.1,bK va tv e.2)) i=some ((FW (sH t x) es i).map fun p=>(p.1,bK va tv p.2))
 | [],i=>rfl
 | (k,v)::es,i=>by
  rw [List.map_cons]
  unfold kJ FW
  simp only [tF he h x k]
  cases sH t x k with
  | true=>rfl
  | false=>exact j9 he h x es (i+1)
theorem tN {a b:Int} (h:af a b=true):a=b:=by unfold af at h;exact of_decide_eq_true h
theorem sw {E:Env}:∀(fs:List Field) (i:Nat) (t:Ty),bY E fs i t=true→∀x y:t.T,sH t x y=true→x=y
 | [],_,_,h=>by simp [bY] at h
 | [_],_,.int _,_=>fun _ _ e=>tN e
 | fd::fs,i,.pair (.int k) t,h=>fun x y e=>by
  have h:(Nat.beq fd.offset i && lS E fd.type k && bY E fs (i+1) t)=true:=by
   cases fs<;>exact h
  simp only [zC] at h
  have e:(af x.1 y.1 && sH t x.2 y.2)=true:=e
  simp only [zC] at e
  exact Prod.ext (tN e.1) (sw fs (i+1) t h.2 _ _ e.2)
 | [_],_,.bool,h=>by simp [bY] at h
 | _::_::_,_,.bool,h=>by simp [bY] at h
 | _::_::_,_,.int _,h=>by simp [bY] at h
 | _::_,_,.unit,h=>by simp [bY] at h
 | _::_,_,.pair .bool _,h=>by simp [bY] at h
 | _::_,_,.pair .unit _,h=>by simp [bY] at h
 | _::_,_,.pair (.pair _ _) _,h=>by simp [bY] at h
 | _::_,_,.pair (.arr _ _) _,h=>by simp [bY] at h
 | _::_,_,.pair (.aI _) _,h=>by simp [bY] at h
 | _::_,_,.pair (.ptr _) _,h=>by simp [bY] at h
 | _::_,_,.pair (.db _) _,h=>by simp [bY] at h
 | _::_,_,.pair (.iX _ _) _,h=>by simp [bY] at h
 | _::_,_,.pair (.oA _ _) _,h=>by simp [bY] at h
 | _::_,_,.pair (.mp _) _,h=>by simp [bY] at h
 | _::_,_,.arr _ _,h=>by simp [bY] at h
 | _::_,_,.aI _,h=>by simp [bY] at h
 | _::_,_,.ptr _,h=>by simp [bY] at h
 | _::_,_,.db _,h=>by simp [bY] at h
 | _::_,_,.iX _ _,h=>by simp [bY] at h
 | _::_,_,.oA _ _,h=>by simp [bY] at h
 | _::_,_,.mp _,h=>by simp [bY] at h
theorem w7 (n:Nat) (k:IntKind) (m:Int):Instr.sameBits n (.int k m) (.int k m)=true:=by cases n<;>simp [Instr.sameBits]
theorem sy {E:Env}:∀(fs:List Field) (i:Nat) (t:Ty),bY E fs i t=true→∀(x:t.T) (g:G) (vs:List Value),Vs g (aA t x) vs→(∀g' Gh,Vs g' (aA t x) Gh→Gh=vs)∧∀n,((vs.zip vs).all fun (a,b)=>Instr.sameBits n a b)=true
 | [],_,_,h=>by simp [bY] at h
 | [_],_,.int k,_=>fun x g vs hv=>by
  obtain ⟨v,rfl,h1,_⟩:=Vs.oP (show Vs g [.v (.int k x)] vs from hv)
  cases h1
  refine ⟨fun g' Gh wG=>?_,fun n=>?_⟩
  ·obtain ⟨v',rfl,ZF,_⟩:=Vs.oP (show Vs g' [.v (.int k x)] Gh from wG)
   cases ZF;rfl
  ·exact (Bool.and_true _).trans (w7 n k x)
 | fd::fs,i,.pair (.int k) t,h=>fun x g vs hv=>by
  have h:(Nat.beq fd.offset i && lS E fd.type k && bY E fs (i+1) t)=true:=by
   cases fs<;>exact h
  simp only [zC] at h
  obtain ⟨v1,v2⟩:=Vs.split (show Vs g (aA (.int k) x.1++aA t x.2) vs from hv)
  obtain ⟨r1,r2⟩:=sy fs (i+1) t h.2 x.2 g _ v2
  obtain ⟨v,e1,h1,_⟩:=Vs.oP (show Vs g [.v (.int k x.1)] _ from v1)
  cases h1
  have yY:vs=Value.int k x.1::vs.drop (aA (.int k) x.1).length:=by
   have:=zP (aA (.int k) x.1).length vs
   rw [e1] at this
   exact this.symm
  refine ⟨fun g' Gh wG=>?_,fun n=>?_⟩
  ·obtain ⟨v1',v2'⟩:=Vs.split (show Vs g' (aA (.int k) x.1++aA t x.2) Gh from wG)
   obtain ⟨v',e1',ZF,_⟩:=Vs.oP (show Vs g' [.v (.int k x.1)] _ from v1')
   cases ZF
   have YL:Gh=Value.int k x.1::Gh.drop (aA (.int k) x.1).length:=by
    have:=zP (aA (.int k) x.1).length Gh
    rw [e1'] at this
    exact this.symm
   rw [YL,yY,r1 _ _ v2']
  ·rw [yY,List.zip_cons_cons,List.all_cons,r2 n]
   exact (Bool.and_true _).trans (w7 n k x.1)
 | [_],_,.bool,h=>by simp [bY] at h
 | _::_::_,_,.bool,h=>by simp [bY] at h
 | _::_::_,_,.int _,h=>by simp [bY] at h
 | _::_,_,.unit,h=>by simp [bY] at h
 | _::_,_,.pair .bool _,h=>by simp [bY] at h
 | _::_,_,.pair .unit _,h=>by simp [bY] at h
 | _::_,_,.pair (.pair _ _) _,h=>by simp [bY] at h
 | _::_,_,.pair (.arr _ _) _,h=>by simp [bY] at h
 | _::_,_,.pair (.aI _) _,h=>by simp [bY] at h
 | _::_,_,.pair (.ptr _) _,h=>by simp [bY] at h
 | _::_,_,.pair (.db _) _,h=>by simp [bY] at h
 | _::_,_,.pair (.iX _ _) _,h=>by simp [bY] at h
 | _::_,_,.pair (.oA _ _) _,h=>by simp [bY] at h
 | _::_,_,.pair (.mp _) _,h=>by simp [bY] at h
 | _::_,_,.arr _ _,h=>by simp [bY] at h
 | _::_,_,.aI _,h=>by simp [bY] at h
 | _::_,_,.ptr _,h=>by simp [bY] at h
 | _::_,_,.db _,h=>by simp [bY] at h
 | _::_,_,.iX _ _,h=>by simp [bY] at h
 | _::_,_,.oA _ _,h=>by simp [bY] at h
 | _::_,_,.mp _,h=>by simp [bY] at h
theorem DJ {E:Env} {K:Nat} {e:cp} {ka:Bool} {t:Ty} (h:DK E K e ka t=true) {x y:t.T} (hxy:sH t x y=true) {g:G} {v v':Value} (h1:V g (bK ka t x) v) (h2:V g (bK ka t y) v'):v'=v∧Instr.sameBits 10000 v v=true:=by
 unfold DK at h
 split at h
 ·rename_i k hd
  cases ka with
  | true=>simp at h
  | false=>
   simp only [Bool.not_false,Bool.true_and] at h
   split at h
   ·split at h
    ·have:=tN hxy
     subst this
     cases h1;cases h2
     exact ⟨rfl,w7 _ _ _⟩
    ·cases h
   ·cases h
 ·rename_i fs hd
  simp only [zC] at h
  obtain ⟨⟨rfl,hq⟩,hs⟩:=h
  have:=sw _ _ _ hs _ _ hxy
  subst this
  have c1:=h1.cells rfl
  have c2:=h2.cells rfl
  obtain ⟨us,rfl⟩:=h1.wq rfl
  obtain ⟨us',rfl⟩:=h2.wq rfl
  obtain ⟨r1,r2⟩:=sy _ _ _ hs x g _ c1
  have e:=r1 _ _ c2
  have e:us'=us:=Array.ext' e
  subst e
  refine ⟨rfl,?_⟩
  have:=r2 9999
  simp only [Value.cells] at this
  rw [show (10000:Nat)=9999+1 from rfl,Instr.sameBits]
  simp only [this,Bool.and_true,beq_self_eq_true]
 ·cases h
end
section
variable {α β σ ρ:Type}
theorem xZ {x:Option α} {f:α→Option β} {a:α} (h:x=some a):bd x f=f a:=by rw [h];rfl
theorem Ki {x:Option α} {n:Option β} {s:α→Option β} {a:α} (h:x=some a):opt x n s=s a:=by rw [h];rfl
theorem Kh {x:Option α} {n:Option β} {s:α→Option β} (h:x=none):opt x n s=n:=by rw [h];rfl
theorem abv {b:Bool} {x y:Option α} (h:b=true):br b x y=x:=by rw [h];rfl
theorem abw {b:Bool} {x y:Option α} (h:b=false):br b x y=y:=by rw [h];rfl
theorem qW {p:Prop} {inst:Decidable p} {x:Option α} (h:p):@gd α p inst x=x:=if_pos h
theorem cG {a b:Int} {x y:Option α} (h:a<b):br (aX a b) x y=x:=by unfold aX;rw [decide_eq_true h];rfl
theorem dg {a b:Int} {x y:Option α} (h:¬a<b):br (aX a b) x y=y:=by unfold aX;rw [decide_eq_false h];rfl
theorem dE {a b:Int} {x y:Option α} (h:a≤b):br (cW a b) x y=x:=by unfold cW;rw [decide_eq_true h];rfl
theorem dF {a b:Int} {x y:Option α} (h:¬a≤b):br (cW a b) x y=y:=by unfold cW;rw [decide_eq_false h];rfl
theorem aP {a b:Int} {x y:Option α} (h:a=b):br (af a b) x y=x:=by unfold af;rw [decide_eq_true h];rfl
theorem aH {a b:Int} {x y:Option α} (h:¬a=b):br (af a b) x y=y:=by unfold af;rw [decide_eq_false h];rfl
theorem gy {a:Int} {x:Option α}:gd (bw a) x=br (cW 0 a) x none:=by unfold cW;by_cases h:0≤a<;>simp [gd,bw,h,br]
theorem gq {a b:Nat} {x:Option α}:gd (bD a b) x=br (aX a b) x none:=by unfold aX;by_cases h:a<b<;>simp [gd,bD,h,br]
theorem gu {a b:Nat} {x:Option α}:gd (bp a b) x=br (cW a b) x none:=by unfold cW;by_cases h:a≤b<;>simp [gd,bp,h,br]
theorem gw {a b:Nat} {x:Option α}:gd (neq a b) x=br (af a b) x none:=by
 unfold af
 by_cases h:a=b
 ·simp [gd,neq,h,br]
 ·have h2:¬(a:Int)=b:=by omega
  simp [gd,neq,h,h2,br]
theorem gz {a b:Int} {x:Option α}:gd (Hu a b) x=br (af a b) x none:=by unfold af;by_cases h:a=b<;>simp [gd,Hu,h,br]
theorem gx {a:Int} {x:Option α}:gd (Hr a) x=br (af a 0) none x:=by unfold af;by_cases h:a=0<;>simp [gd,Hr,h,br]
theorem dD {b:Bool} {x y:Option α}:br (ax b) x y=br b y x:=by cases b<;>rfl
theorem MY {a b:Bool} {x y:Option α}:br (l7 a b) x y=br a (br b x y) y:=by cases a<;>cases b<;>rfl
theorem wrap_i64 (n:Int):IntKind.i64.wrap n=(n+9223372036854775808)%18446744073709551616-9223372036854775808:=by
 simp [IntKind.wrap,IntKind.bits,IntKind.signed]
 split<;>omega
theorem wrap_u64 (n:Int):IntKind.u64.wrap n=n%18446744073709551616:=by simp [IntKind.wrap,IntKind.bits,IntKind.signed]
theorem a_ {a b:Int} (h : -9223372036854775808≤a+b∧a+b≤9223372036854775807):ae .i64 a b=a+b:=by unfold ae;rw [wrap_i64];omega
theorem bO {a b:Int} (h : -9223372036854775808≤a-b∧a-b≤9223372036854775807):aD .i64 a b=a-b:=by unfold aD;rw [wrap_i64];omega
theorem dC {a b:Int} (h : -9223372036854775808≤a*b∧a*b≤9223372036854775807):dO .i64 a b=a*b:=by unfold dO;rw [wrap_i64];omega
theorem fk {a:Int} (h : -9223372036854775808≤a∧a≤9223372036854775807):cJ .i64 a=a:=by unfold cJ;rw [wrap_i64];omega
theorem gh {a:Int} (h:0≤a∧a≤18446744073709551615):cJ .u64 a=a:=by unfold cJ;rw [wrap_u64];omega
theorem c_ {a b:Int} (h:0≤a):dB a b=a%b:=Int.tmod_eq_emod_of_nonneg h
theorem Lb {a b:Int} (h:0≤a):a.tdiv b=a / b:=Int.tdiv_eq_ediv_of_nonneg h
theorem dX {a b:Int} (h:0≤a∧a≤9223372036854775807∧0<b):Bl .i64 a b=a / b:=by
 unfold Bl
 rw [Lb h.1,wrap_i64]
 have h1:0≤a / b:=Int.ediv_nonneg h.1 (by omega)
 have h2:a / b≤a:=Int.ediv_le_self b h.1
 omega
theorem ja (n:Nat):nN (n:Int)=n:=zE n
theorem fq (n:Nat):zN n=(n:Int):=rfl
theorem dT (a:Int):nN a=a.toNat:=rfl
theorem bQ (a:Int):bw a=(0≤a):=rfl
theorem cn (a b:Nat):bD a b=(a<b):=rfl
theorem dM (a b:Nat):bp a b=(a≤b):=rfl
theorem gW {d:α} {l:List α} {i:Nat} (h:i<l.length):nth d l i=l[i]:=by unfold nth;rw [zA,zD h];rfl
theorem bP {d x:α} {l:List α} {i:Nat} (h:l[i]?=some x):nth d l i=x:=by unfold nth;rw [zA,h];rfl
theorem G3 {d x:α} {l:List α} {i j:Nat}:nth d (upd l i x) j=if i=j∧j<l.length then x else nth d l j:=by
 unfold nth upd
 rw [zA,zA,List.getElem?_set]
 by_cases h:i=j
 ·subst h
  by_cases h1:i<l.length
  ·simp [h1]
  ·simp [h1]
 ·simp [h]
theorem CL {l:List (Option (List α))} {j:Nat} {r:List α}:aT l j=some r↔l[j]?=some (some r):=by
 unfold aT
 rw [zA]
 cases h:l[j]? with
 | none=>simp
 | some x=>simp
theorem oK {l:List (Option (List α))} {j:Nat} {r:List α} (h:aT l j=some r):j<l.length:=(zB.1 (CL.1 h)).1
theorem yr {l:List (Option (List α))} {i j:Nat} {x:Option (List α)} (h:i<l.length):aT (upd l i x) j=if i=j then x else aT l j:=by
 unfold aT upd
 rw [zA,zA,List.getElem?_set]
 by_cases e:i=j
 ·subst e;simp [h]
 ·simp [e]
theorem bZ {l:List (Option (List α))} {j:Nat} {r:List α} {x:Option (List α)} (h:aT l j=some r):aT (upd l j x) j=x:=by rw [yr (oK h),if_pos rfl]
theorem vq {d x:α} {l:List α} {i:Nat} (h:i<l.length):nth d (upd l i x) i=x:=by rw [G3,if_pos ⟨rfl,h⟩]
theorem yt {l:List (Option (List α))} {j:Nat} {x:Option (List α)}:aT (cat l [x]) j=if j=l.length then x else aT l j:=by
 unfold aT cat
 rw [zA,zA]
 by_cases e:j=l.length
 ·subst e;simp
 ·rw [if_neg e]
  by_cases h1:j<l.length
  ·rw [zK h1]
  ·rw [zb (by simp;omega),zb (by omega)]
theorem G4 {d x:α} {l:List α} {j:Nat}:nth d (cat l [x]) j=if j=l.length then x else nth d l j:=by
 unfold nth cat
 rw [zA,zA]
 by_cases e:j=l.length
 ·subst e;simp
 ·rw [if_neg e]
  by_cases h1:j<l.length
  ·rw [zK h1]
  ·rw [zb (by simp;omega),zb (by omega)]
theorem gk {l:List (Option (List α))} {x:Option (List α)}:aT (cat l [x]) l.length=x:=by rw [yt,if_pos rfl]
theorem vr {d x:α} {l:List α}:nth d (cat l [x]) l.length=x:=by rw [G4,if_pos rfl]
theorem mZ {n:Nat} {l:List α}:(tk n l).length=min n l.length:=List.length_take
theorem nj {n:Nat} {l:List α}:(dr n l).length=l.length-n:=List.length_drop
theorem kS {n:Nat} {x:α}:(rep n x).length=n:=List.length_replicate
theorem iL {d:α} {l:List α} {n:Nat} {x:α}:(upd l n x).length=l.length:=zM
theorem xl {l k:List α}:(cat l k).length=l.length+k.length:=zY
theorem aM (l:List α):len l=l.length:=rfl
theorem EW {S R B:List α} {i m m' k:Nat} (hi:i<S.length) (hk:k=S.length-(i+1)) (hm:m=i+k) (Nz:m'=i+k):tk m (cat (tk m' (cat (tk i S) (cat (tk k (dr (i+1) S)) R))) B)=S.eraseIdx i:=by
 have e1:tk k (dr (i+1) S)=S.drop (i+1):=za (by simp [dr];omega)
 rw [e1]
 unfold tk cat
 have hl:(S.take i++S.drop (i+1)).length=i+k:=by simp;omega
 have h2:List.take m' (List.take i S++(List.drop (i+1) S++R))=List.take i S++List.drop (i+1) S:=by
  rw [←List.append_assoc];exact List.take_left' (hl.trans Nz.symm)
 rw [h2]
 exact (List.take_left' (hl.trans hm.symm)).trans (List.eraseIdx_eq_take_drop_succ _ _).symm
def Ca (f:(σ→Option α)→σ→Option α) (s:σ) (x:Option α) (k:Nat):Prop:=∀n,k<n→iter f n s=x
theorem Ca.stop {f:(σ→Option α)→σ→Option α} {s:σ} {x:Option α} (k:Nat) (h:∀g,f g s=x):Ca f s x k:=fun n hn=>by
 cases n with
 | zero=>omega
 | succ n=>exact h _
theorem Ca.step {f:(σ→Option α)→σ→Option α} {s s':σ} {x:Option α} {k:Nat} (h:Ca f s' x k) (e:∀g:σ→Option α,f g s=g s'):Ca f s x (k+1):=fun n hn=>by
 cases n with
 | zero=>omega
 | succ n=>exact (e _).trans (h n (by omega))
theorem Ca.loop {f:(σ→Option α)→σ→Option α} {s:σ} {x:Option α} {k:Nat} (h:Ca f s x k) (hk:k<lz):Go.Bm.loop f s=x:=by rw [nS];exact h lz hk
theorem Kr {f:(σ→Option α)→σ→Option α} {s:σ}:Go.Bm.loop f s=f (fun s=>f (fun s=>f (iter f 9223372036854775805) s) s) s:=by rw [nS];rfl
theorem nR {f:(σ→Option α)→σ→Option α} (mk:Nat→σ) (res:Nat→Option α) (N:Nat) (hN:N<lz) (he:∀g,f g (mk N)=res N) (h:∀k,k<N→(∀g,f g (mk k)=res k)∨(res k=res (k+1)∧∀g,f g (mk k)=g (mk (k+1)))):Go.Bm.loop f (mk 0)=res 0:=by
  have key:∀m k:Nat,k+m=N→Ca f (mk k) (res k) m:=by
    intro m
    induction m with
    | zero=>
              intro k hk;obtain rfl:k=N:=by omega
              exact .stop 0 he
    | succ m ih=>
      intro k hk
      rcases h k (by omega) with h1 | ⟨h1,h2⟩
      · exact .stop _ h1
      · rw [h1];exact .step (ih (k+1) (by omega)) (fun g=>h2 g)
  exact (key N 0 (by omega)).loop hN
end
theorem bits_mask (a:Int) (j:Nat) (hj:j<63):bits .and .i64 a (2^j-1)=a%2^j:=by
 have h1:(BitVec.ofInt 64 (2^j-1)).toNat=2^j-1:=by
  rw [BitVec.toNat_ofInt]
  have h2:(2:Int)^j<2^64:=by
   have:(2:Nat)^j<2^64:=Nat.pow_lt_pow_right (by omega) (by omega)
   exact_mod_cast this
  have h3:(0:Int)<2^j:=by
   have:0<(2:Nat)^j:=Nat.pow_pos (by omega)
   exact_mod_cast this
  rw [Int.emod_eq_of_lt (by omega) (by simpa using (by omega:(2:Int)^j-1<2^64))]
  have:((2:Int)^j-1)=(((2:Nat)^j-1:Nat):Int):=by
   have:0<(2:Nat)^j:=Nat.pow_pos (by omega)
   rw [Int.natCast_sub (by omega)];simp
  rw [this];simp
 have h4:((BitVec.ofInt 64 a).toNat &&& (2^j-1))=(BitVec.ofInt 64 a).toNat%2^j:=Nat.and_two_pow_sub_one_eq_mod _ _
 have h5:(((BitVec.ofInt 64 a).toNat%2^j:Nat):Int)=a%2^j:=by
  rw [BitVec.toNat_ofInt]
  have hd:(2:Int)^j ∣ 2^64:=⟨2^(64-j),by rw [←Int.pow_add];congr 1;omega⟩
  rw [Int.natCast_emod,Int.toNat_of_nonneg (Int.emod_nonneg _ (by decide))]
  have:=Int.emod_emod_of_dvd a hd
  simpa using this
 have h6:0≤a%2^j:=Int.emod_nonneg _ (by
  have:0<(2:Nat)^j:=Nat.pow_pos (by omega)
  have:(0:Int)<2^j:=by exact_mod_cast this
  omega)
 have h7:a%2^j<9223372036854775808:=by
  have hp:(0:Int)<2^j:=by
   have:0<(2:Nat)^j:=Nat.pow_pos (by omega)
   exact_mod_cast this
  have h8:=Int.emod_lt_of_pos a hp
  have h9:(2:Int)^j≤2^63:=by
   have:(2:Nat)^j≤2^63:=Nat.pow_le_pow_right (by omega) (by omega)
   exact_mod_cast this
  omega
 have ZE:(BitVec.ofInt 64 a &&& BitVec.ofInt 64 (2^j-1)).toNat=(BitVec.ofInt 64 a).toNat%2^j:=by rw [BitVec.toNat_and,h1,h4]
 show IntKind.i64.wrap ((BitVec.ofInt 64 a &&& BitVec.ofInt 64 (2^j-1)).toNat:Int)=_
 rw [ZE,h5]
 exact (by rw [wrap_i64];omega)
theorem ss {n:Nat} {a:Int} (h0:0≤a) (h1:a<2^n):(BitVec.ofInt n a).toNat=a.toNat:=by
 rw [BitVec.toNat_ofInt,Int.emod_eq_of_lt h0 (by exact_mod_cast h1)]
theorem wj {a b:Int} (ha:0≤a∧a<9223372036854775808) (hb:0≤b∧b<9223372036854775808):bits .or .i64 a b=((a.toNat ||| b.toNat:Nat):Int):=by
 show IntKind.i64.wrap ((BitVec.ofInt 64 a ||| BitVec.ofInt 64 b).toNat:Int)=_
 rw [BitVec.toNat_or,ss ha.1 (by omega),ss hb.1 (by omega)]
 have:a.toNat ||| b.toNat<2^63:=Nat.or_lt_two_pow (by omega) (by omega)
 exact (by rw [wrap_i64];omega)
theorem zu {a m:Int} (j:Nat) (hj:j<63) (hm:m=2^j-1):bits .and .i64 a m=a%2^j:=by rw [hm,bits_mask a j hj]
theorem yD {a b:Int} (ha:0≤a∧a<9223372036854775808) (hb:0≤b∧b<9223372036854775808):dB (bits .or .i64 a b) 8=0↔a%8=0∧b%8=0:=by
 rw [wj ha hb,c_ (by omega)]
 obtain ⟨x,rfl⟩:=Int.eq_ofNat_of_zero_le ha.1
 obtain ⟨y,rfl⟩:=Int.eq_ofNat_of_zero_le hb.1
 have h:(x ||| y)%8=(x%8) ||| (y%8):=by
  have:=Nat.or_mod_two_pow (a:=x) (b:=y) (n:=3)
  simpa using this
 have h2:(x ||| y)%8=0↔x%8=0∧y%8=0:=by rw [h];exact Nat.or_eq_zero_iff
 simp only [zE]
 omega
theorem CG : ∀ k : Fin 64, 3 ≤ k.val → (7#64)[k.val]'k.isLt = false := by decide
theorem Iq {a:Int} (ha:0≤a∧a<9223372036854775808):bits .andNot .i64 a 7=a-a%8:=by
 obtain ⟨x,rfl⟩:=Int.eq_ofNat_of_zero_le ha.1
 have h1:(BitVec.ofInt 64 (x:Int) &&& ~~~ BitVec.ofInt 64 7).toNat=x-x%8:=by
  have hx:x<2^64:=by omega
  have e:BitVec.ofInt 64 (x:Int) &&& ~~~ BitVec.ofInt 64 7=(BitVec.ofNat 64 x >>> 3) <<< 3:=by
   rw [BitVec.ofInt_natCast]
   ext i hi
   simp only [BitVec.getElem_and,BitVec.getElem_not,BitVec.getElem_shiftLeft]
   by_cases h3:i<3
   ·have:i=0∨i=1∨i=2:=by omega
    rcases this with rfl | rfl | rfl<;>simp<;>decide
   ·have h7:(BitVec.ofInt 64 7)[i]=false:=by
     have:BitVec.ofInt 64 7=7#64:=rfl
     rw [this]
     exact CG ⟨i,hi⟩ (by simpa using h3)
    rw [h7]
    simp [h3]
    congr 1
    omega
  rw [e]
  simp only [BitVec.toNat_shiftLeft,BitVec.toNat_ushiftRight,BitVec.toNat_ofNat,Nat.mod_eq_of_lt hx,Nat.shiftRight_eq_div_pow,Nat.shiftLeft_eq]
  omega
 show IntKind.i64.wrap ((BitVec.ofInt 64 (x:Int) &&& ~~~ BitVec.ofInt 64 7).toNat:Int)=_
 rw [h1,wrap_i64];omega
end Go.Bm
namespace Go.nv
open Go.Bm
abbrev uB:=Int×Int×Int×Int
abbrev Xt:=Int×Int
abbrev pa:=Int×Bool
abbrev Cc:=Int×Int×Int
abbrev Hnd:=Int×Int×Int
abbrev pr:=Int×Int×Int×Int
abbrev oz:=Int×Int×Int×Int×Int×Int×Int
def within (a lo hi:Int):Bool:=decide (lo≤a) && decide (a≤hi)
theorem kb {a lo hi:Int}:within a lo hi=true↔lo≤a∧a≤hi:=by simp [within]
def fQ (p:pr):Bool:=within p.1 1 8 && (within p.2.1 1 4 && (within p.2.2.1 0 2048 && (within p.2.2.2 0 8192 && (decide (p.2.2.1%8=0) && decide (p.2.2.2%8=0)))))
theorem iI {p:pr}:fQ p=true↔(1≤p.1∧p.1≤8)∧(1≤p.2.1∧p.2.1≤4)∧(0≤p.2.2.1∧p.2.2.1≤2048)∧(0≤p.2.2.2∧p.2.2.2≤8192)∧p.2.2.1%8=0∧p.2.2.2%8=0:=by
 simp [fQ,kb]
def IC (n:Int):Int:=n+7-(n+7)%8
def fg (c:uB):Bool:=within c.2.2.2 0 16777215 && (if c.1=0∨c.1=1 then decide (c.2.1=0) && decide (c.2.2.1 = -1) else if c.1=2 then within c.2.1 1 7 && within c.2.2.1 (-1) 7 else if c.1=3 then decide (c.2.1=0) && within c.2.2.1 (-1) 7 else false)
def xV:uB:=(0,0,0,0)
def rf (c:uB) (fr:Int):uB×Int:=
 if fg c=false∨within fr 0 7=false then (xV,1)
 else if c.1=0 then (xV,11)
 else if c.1=3 then (xV,10)
 else if c.1=1 then ((2,c.2.1+1,fr,c.2.2.2),0)
 else if c.2.2.1≠fr then (xV,15)
 else if c.2.1=7 then (xV,16)
 else ((c.1,c.2.1+1,c.2.2.1,c.2.2.2),0)
def lx (c:uB) (s:Int):Int:=if fg c=false then 1 else if c.1≠s then 11 else 0
def re (c:uB):uB×Int:=if lx c 2≠0 then (xV,lx c 2) else if c.2.1=1 then ((3,0,c.2.2.1,c.2.2.2),0) else ((c.1,c.2.1-1,c.2.2.1,c.2.2.2),0)
def su (e:Int):Int:=(e+1)%16777216
def ug (c:uB):uB×Int:=if lx c 3≠0 then (xV,lx c 3) else ((1,0,-1,su c.2.2.2),0)
def M3 (l:List pa):Int:=match l.getLast? with
 | some e=>e.1
 | none=>0
def kK:List pa→Int→Option Nat
 | [],_=>none
 | e::l,s=>if e=(s,true) then some 0 else (kK l s).map (· + 1)
def reach (l:List pa) (s:Int):Bool:=decide (s=0) || (kK l s).isSome
def parent (l:List pa) (s:Int):Int:=match kK l s with
 | some i=>M3 (l.take i)
 | none=>-1
def uw (l:List pa) (s:Int):Nat→Int→Bool
 | 0,_=>false
 | n+1,b=>if b=s then true else uw l s n (parent l b)
def K2 (l:List pa) (s b:Int):Bool:=decide (s=0) || uw l s 9 b
def mo (jH bytes:Int):Int×Int:=if within jH 0 6=false∨within bytes 0 512=false then (0,1) else (2+jH+(bytes+7) / 8,0)
end Go.nv
namespace Go.Bm
section
variable {α β σ ρ:Type}
def Ok (x:Option α) (P:α→Prop):Prop:=∃a,x=some a∧P a
theorem Ok.some {a:α} {P:α→Prop} (h:P a):Ok (some a) P:=⟨a,rfl,h⟩
theorem Ok.mono {x:Option α} {P Q:α→Prop} (h:Ok x P) (k:∀a,P a→Q a):Ok x Q:=let ⟨a,e,h⟩:=h;⟨a,e,k a h⟩
theorem Ok.bd {x:Option α} {f:α→Option β} {Q:α→Prop} {P:β→Prop} (h:Ok x Q) (k:∀a,Q a→Ok (f a) P):Ok (Go.Bm.bd x f) P:=by
 obtain ⟨a,rfl,h⟩:=h
 exact k a h
theorem Ok.fY {x:Option α} {f:α→Option β} {a:α} {P:β→Prop} (h:x=Option.some a) (k:Ok (f a) P):Ok (Go.Bm.bd x f) P:=by rw [xZ h];exact k
theorem Ok.br {c:Bool} {x y:Option α} {P:α→Prop} (h1:c=true→Ok x P) (h2:c=false→Ok y P):Ok (Go.Bm.br c x y) P:=by
 cases c with
 | true=>exact h1 rfl
 | false=>exact h2 rfl
theorem Ok.gd {p:Prop} {inst:Decidable p} {x:Option α} {P:α→Prop} (h:p) (k:Ok x P):Ok (@Go.Bm.gd α p inst x) P:=by rw [qW h];exact k
theorem Ok.fT {o:Option α} {a:α} {n:Option β} {s:α→Option β} {P:β→Prop} (h:o=Option.some a) (k:Ok (s a) P):Ok (opt o n s) P:=by rw [Ki h];exact k
theorem Ok.AO {o:Option α} {n:Option β} {s:α→Option β} {P:β→Prop} (h:o=none) (k:Ok n P):Ok (opt o n s) P:=by rw [Kh h];exact k
theorem Ok.opt {o:Option α} {n:Option β} {s:α→Option β} {P:β→Prop} (h:o=none→Ok n P) (k:∀a,o=Option.some a→Ok (s a) P):Ok (Go.Bm.opt o n s) P:=by
 cases o with
 | none=>exact h rfl
 | some a=>exact k a rfl
theorem Ok.jn {f:(σ→Option ρ)→Option ρ} {K:σ→Option ρ} {P:ρ→Prop} (h:Ok (f K) P):Ok (Go.Bm.jn f K) P:=by rw [eo];exact h
theorem Ok.oD {f:(σ→Option ρ)→Option ρ} {K:σ→Option ρ} {P:ρ→Prop} (Q:σ→Prop) (hK:∀s,Q s→Ok (K s) P) (h:∀k,(∀s,Q s→Ok (k s) P)→Ok (f k) P):Ok (Go.Bm.jn f K) P:=by rw [eo];exact h K hK
theorem Ok.loop {f:(σ→Option α)→σ→Option α} {P:α→Prop} (I:Nat→σ→Prop) (h:∀m s g,I m s→(∀m' s',m' < m→I m' s'→Ok (g s') P)→Ok (f g s) P) {N:Nat} {s0:σ} (hN:N<lz) (h0:I N s0):Ok (Go.Bm.loop f s0) P:=by
 have key:∀m n s,m<n→I m s→Ok (iter f n s) P:=by
  intro m
  induction m using Nat.strongRecOn with
  | _ m ih=>
   intro n s hn hs
   cases n with
   | zero=>omega
   | succ n=>exact h m s (iter f n) hs (fun m' s' hm Bo=>ih m' hm n s' (by omega) Bo)
 rw [nS]
 exact key N lz s0 hN h0
theorem eB {a b:Int}:aX a b=true↔a<b:=decide_eq_true_iff
theorem SE {a b:Int}:cW a b=true↔a≤b:=decide_eq_true_iff
theorem cj {a b:Int}:af a b=true↔a=b:=decide_eq_true_iff
theorem im {a b:Int}:aX a b=false↔¬a<b:=decide_eq_false_iff_not
theorem qJ {a b:Int}:cW a b=false↔¬a≤b:=decide_eq_false_iff_not
theorem cb {a b:Int}:af a b=false↔¬a=b:=decide_eq_false_iff_not
theorem pn {a:Bool}:ax a=true↔a=false:=by cases a<;>simp [ax]
theorem gO {a:Bool}:ax a=false↔a=true:=by cases a<;>simp [ax]
end
section
open Go.RowKit
section
variable {P:Program} {E:Env} {o:Oper} {ρ:Operand→A} {h:H} {β:Type} {K:A→H→Fp→Option β} {r:β}
def xp:A→Bool
 | .agg _=>true
 | _=>false
theorem V.sc1 {g:G} {p:A} {v:Value} {cs:List A} (hv:V g p v) (ha:xp p=false) (hc:p.cells=some cs):v.oneCell'=true:=by
 cases hv with
 | v x=>
  unfold A.cells at hc
  cases hx:v.oneCell' with
  | true=>rfl
  | false=>simp only [hx,cond_false] at hc;cases hc
 | agg=>cases ha
 | iM=>cases hc
 | un=>cases hc
 | cD=>cases hc
 | op r o v h0 h1=>exact V.A5 (.op r o v h0 h1)
 | os r z o v h0 h1=>exact V.A5 (.os r z o v h0 h1)
 | om r o v h0 h1=>exact V.A5 (.om r o v h0 h1)
 | tl t f l v hd=>exact hd.one
 | _=>rfl
def kA (a:Bool) (t:Ty) (p:A):Option t.T:=bif a then (match p with
 | .agg cs=>oB t cs
 | _=>none) else bif xp p then none else (match p.cells with
 | some cs=>bif Nat.beq t.size 1 then oB t cs else none
 | none=>none)
theorem jJ {a:Bool} {t:Ty} {p:A} {x:t.T} (hx:kA a t p=some x) {g:G} {v:Value} (hv:V g p v):V g (bK a t x) v:=by
 unfold kA at hx
 unfold bK
 cases a with
 | true=>
  simp only [cond_true] at hx ⊢
  split at hx
  ·rename_i cs
   obtain ⟨us,rfl⟩:=hv.wq rfl
   exact Vs.agg ((iW (g:=g) t cs x hx).2 _ (hv.cells rfl))
  ·cases hx
 | false=>
  simp only [cond_false] at hx ⊢
  cases ha:xp p with
  | true=>rw [ha] at hx;cases hx
  | false=>
   rw [ha] at hx;simp only [cond_false] at hx
   split at hx
   ·rename_i cs hc
    obtain ⟨h1,hx⟩:=ah hx
    have h1:=beq_eq h1
    have xv:=(iW (g:=g) t cs x hx).2 _ (hv.cells hc)
    rw [sr (hv.sc1 ha hc)] at xv
    have hl:(aA t x).length=1:=by rw [bG];exact h1
    match he:aA t x,hl with
    | [c],_=>
     rw [he] at xv
     exact (xv.2 0 c v rfl rfl).1
   ·cases hx
theorem eM.conv {S S':Hp} {ρ':Operand→A} {pv:A} (hc:∀x∈o.op.operands,∀g v,V g (ρ x) v→V g (ρ' x) v) (k:eM P o ρ' S S' pv):eM P o ρ S S' pv:=
 fun g w a next Q hI hv K=>k g w a next Q hI (fun x hx=>hc x hx g _ (hv x hx)) K
def told (ρ:Operand→A) (y:Operand) (p:A):Operand→A:=fun z=>open Classical in if z=y then p else ρ z
theorem fN {ρ:Operand→A} {y:Operand} {p:A}:told ρ y p y=p:=if_pos rfl
theorem nB {ρ:Operand→A} {y z:Operand} {p:A} (h:z≠y):told ρ y p z=ρ z:=if_neg h
theorem oJ {ρ:Operand→A} {y:Operand} {p:A} (h:∀g v,V g (ρ y) v→V g p v):∀(x:Operand) (g:G) (v:Value),V g (ρ x) v→V g (told ρ y p x) v:=fun x g v hv=>by
 by_cases hx:x=y
 ·subst hx;rw [fN];exact h g v hv
 ·rw [nB hx];exact hv
def Sy (h:H) (r j:Nat) (k:(ka:Bool)→(tk:Ty)→(va:Bool)→(tv:Ty)→List (tk.T×tv.T)→Option β):Option β:=match bn h.rg r with
 | some ⟨_,.map ka tk va tv,c⟩=>bif Nat.blt r 64 then k ka tk va tv (nth (α:=List (tk.T×tv.T)) [] c j) else none
 | _=>none
def g6 (ka:Bool) (tk:Ty) (va:Bool) (tv:Ty) (es:List (tk.T×tv.T)):List (A×A):=es.map fun e=>(bK ka tk e.1,bK va tv e.2)
theorem AA {ka va:Bool} {tk tv:Ty} {c:List (List (tk.T×tv.T))} {j:Nat} (h:j<c.length):dK (.map ka tk va tv) c j=some (.cN (.map (g6 ka tk va tv (nth [] c j)))):=by
 show (match kG (α:=List (tk.T×tv.T)) c j with | some es=>some (Ob.cN (.map (g6 ka tk va tv es))) | none=>none)=_
 have e:kG c j=some (nth [] c j):=by simp [kG,nth,zA,zD h]
 rw [e]
theorem xe {q j:Nat} {k:(ka:Bool)→(tk:Ty)→(va:Bool)→(tv:Ty)→List (tk.T×tv.T)→Option β} (hr:Sy h q j k=some r):∃(ka:Bool) (tk:Ty) (va:Bool) (tv:Ty) (es:List (tk.T×tv.T)),k ka tk va tv es=some r∧q<64∧(∃x:Rg,bn h.rg q=some x∧∃c:List (List (tk.T×tv.T)),x=⟨x.r,.map ka tk va tv,c⟩∧es=nth [] c j) ∧
  ∀g S (w:World) b s,Inv g S w→S.ob (e_ q j)=(hp h).ob (e_ q j)→(S.fr (e_ q j)↔(hp h).fr (e_ q j))→g.bl (e_ q j)=some (some b,s)→S.ob (e_ q j)=some (.cN (.map (g6 ka tk va tv es))):=by
 unfold Sy at hr
 split at hr
 ·rename_i rr ka tk va tv c hf
  obtain ⟨h1,h2⟩:=ah hr
  have h3:q<64:=ba h1
  refine ⟨ka,tk,va,tv,_,h2,h3,⟨_,hf,c,rfl,rfl⟩,fun g S w b s hI e e2 hg=>?_⟩
  have fe:j<List.length (α:=List (tk.T×tv.T)) c:=by
   rcases Nat.lt_or_ge j (List.length (α:=List (tk.T×tv.T)) c) with fe | uH
   ·exact fe
   ·have:S.fr (e_ q j):=e2.2 (by rw [fV.2,fJ h3 hf];exact uH)
    have:=hI.fresh _ this
    rw [this] at hg;cases hg
  rw [e,fV.1,kt h3 hf]
  exact AA fe
 ·cases hr
def Bi (ok:Bool) (z:A) (res:Option (Nat×A)) (h:H) (T:Fp) (K:A→H→Fp→Option β):Option β:=bif ok then K (.iM [Am z res,.v (.bool res.isSome)]) h T else Cw (Am z res) (fun v=>K v h T)
theorem yM {ok:Bool} {z:A} {res:Option (Nat×A)} {T:List Nat} (hd:∀c,o.op≠.defer c) (hr:Bi ok z res h (.rd T) K=some r) (k:∀S2,Agree (.rd T) (hp h) S2→eM P o ρ S2 S2 (bif ok then .iM [Am z res,.v (.bool res.isSome)] else Am z res)):Out P o ρ h K r:=by
 unfold Bi at hr
 cases ok with
 | true=>exact .read T hr k hd
 | false=>exact .sp hr (.read _ k hd)
def LU (E:Env) (T:Nat) (ok:Bool) (px py:A) (h:H) (K:A→H→Fp→Option β):Option β:=match cq E.dJ T with
 | some ⟨.map KT VT,_,_,_,_,_,_⟩=>match cq E.dJ KT,cq E.dJ VT with
  | some e,some e2=>match Cg e2.zero with
   | some z=>match px with
    | .mp (.loc q)=>match h.t.get q with
     | some (.cN (.map es))=>match iP E KT e.d py py with
      | some _=>bif lu E e.d && Nat.blt q 16777216 then sF (iP E KT e.d py) es 0 (fun res=>Bi ok z res h (.rd [dk q]) K) else none
      | none=>none
     | _=>none
    | .mp (.eh q j)=>Sy h q j (fun ka tk va tv es=>bif DK E KT e ka tk && lu E e.d then (match kA ka tk py with
     | some x=>opt (FW (sH tk x) es 0) (Bi ok z none h (.rd [g7 q]) K) (fun p=>Bi ok z (some (p.1,bK va tv p.2)) h (.rd [g7 q]) K)
     | none=>none) else none)
    | _=>none
   | none=>none
  | _,_=>none
 | _=>none
theorem Hh (hE:bR P E) {T:Nat} {x y:Operand} {ok:Bool} (ho:o.op = .lookup T x y ok) (hr:LU E T ok (ρ x) (ρ y) h K=some r):Out P o ρ h K r:=by
 have hd:∀c,o.op≠.defer c:=by rw [ho];intro c e;cases e
 unfold LU at hr
 split at hr
 ·rename_i KT VT _ _ _ _ _ _ ht
  have hT:=(hE.dJ _ _ ht).u
  split at hr
  ·rename_i e e2 he Tm
   obtain ⟨i,t1,t2,t3,t4,t5,t6⟩:=(hE.dJ _ _ Tm).ti
   split at hr
   ·rename_i z hz
    have hzz:=Cf hz t6
    split at hr
    ·rename_i q hx
     split at hr
     ·rename_i es hg
      split at hr
      ·rename_i b hs
       obtain ⟨h1,hr⟩:=ah hr
       simp only [zC] at h1
       have hq:=ba h1.2
       obtain ⟨res,k1,k2⟩:=oe _ _ _ hr
       have eN:(hp h).ob q=some (.cN (.map es)):=by rw [jM hq];unfold fh;rw [hg];rfl
       exact yM hd k1 (fun S2 hA=>qC hE ho hT he Tm h1.1 hs hx ((hA q (aB hq (.head _))).1.trans eN) k2 hzz)
      ·cases hr
     ·cases hr
    ·rename_i q j hx
     obtain ⟨ka,tk,va,tv,es,hr,hq,_,eN⟩:=xe hr
     obtain ⟨h1,hr⟩:=ah hr
     simp only [zC] at h1
     split at hr
     ·rename_i kx qR
      have kF:x≠y:=fun e=>by
       rw [←e,hx] at qR
       unfold kA at qR
       cases ka with
       | true=>cases qR
       | false=>
        simp only [cond_false,xp,A.cells] at qR
        obtain ⟨_,qR⟩:=ah qR
        have hs:=h1.1
        unfold DK at hs
        split at hs
        ·simp only [Bool.not_false,Bool.true_and] at hs
         split at hs
         ·simp [oB] at qR
         ·cases hs
        ·simp at hs
        ·cases hs
      have main:∀res,FW (sH tk kx) es 0=res→Bi ok z (res.map fun p=>(p.1,bK va tv p.2)) h (.rd [g7 q]) K=some r→Out P o ρ h K r:=fun res hm hr=>by
       refine yM hd hr (fun S2 hA=>eM.bl fun g w a hI hv=>?_)
       have uG:=hv x (by simp [ho,Op.operands])
       rw [hx] at uG
       have ha:=hA (e_ q j) (bV (r:=q) (j:=j) hq (.head _))
       have wJ:∃b s,g.bl (e_ q j)=some (some b,s):=by
        generalize a.eval x=vx at uG
        cases uG with
        | mp _ b s bF=>exact ⟨b,s,bF⟩
       obtain ⟨b,s,bF⟩:=wJ
       have dU:=eN g S2 w b s hI ha.1 ha.2 bF
       refine eM.conv (ρ':=told ρ y (bK ka tk kx)) (fun x _ g v hv=>oJ (fun g v hv=>jJ qR hv) x g v hv) ?_
       have hf:=j9 (va:=va) (tv:=tv) he h1.1 kx es 0
       rw [hm] at hf
       exact qC (X:=.eh q j) (es:=g6 ka tk va tv es) hE ho hT he Tm h1.2 (b:=sH tk kx kx) (by rw [fN];exact tF he h1.1 kx kx) (by rw [nB kF,hx]) dU (by rw [fN];exact hf) hzz
      rcases g_ hr with ⟨e,hr⟩ | ⟨p,e,hr⟩
      ·exact main none e hr
      ·exact main (some p) e hr
     ·cases hr
    ·cases hr
   ·cases hr
  ·cases hr
 ·cases hr
def Sz (h:H) (K:A→H→Fp→Option β):Option β:=mD (.cN (.map [])) h (fun q h'=>K (.mp (.loc q)) h' (.wr [dk q]))
theorem Hf {T:Nat} (ho:o.op = .makeMap T none) (hr:Sz h K=some r):Out P o ρ h K r:=by
 have hd:∀c,o.op≠.defer c:=by rw [ho];intro c e;cases e
 obtain ⟨h',k1,hq,hf,hh⟩:=fF hr
 exact ⟨_,_,_,k1,.of _ hh rfl (fun u hu=>by rcases zF.1 hu with rfl;exact aB (o:=h.aS) hq (.head _)) (fun S2 hA=>vk ho ((hA _ (aB hq (.head _))).2.2 hf)) hd⟩
def AG (h:H) (q j:Nat) (ka:Bool) (tk:Ty) (va:Bool) (tv:Ty) (es:List (tk.T×tv.T)) (k:H→Option β):Option β:=bif vD h (g7 q) then none else match bn h.rg q with
 | some ⟨_,.map Yz Ww Xr Wu,c⟩=>if ka=Yz∧va=Xr then (match fp (.aI (.pair tk tv)) (.aI (.pair Ww Wu)) es with
  | some ni=>k { h with rg:=iY h.rg q (.map Yz Ww Xr Wu) (upd (α:=List (Ww.T×Wu.T)) c j ni) }
  | none=>none) else none
 | _=>none
theorem qo {ka va:Bool} {tk tv:Ty} {c:List (List (tk.T×tv.T))} {j:Nat} {es:List (tk.T×tv.T)} (hj:j<c.length) (i:Nat):dK (.map ka tk va tv) (upd c j es) i=if i=j then some (.cN (.map (g6 ka tk va tv es))) else dK (.map ka tk va tv) c i:=by
 show (match kG (α:=List (tk.T×tv.T)) (upd c j es) i with | some es=>some (Ob.cN (.map (g6 ka tk va tv es))) | none=>none)=if i=j then some (.cN (.map (g6 ka tk va tv es))) else (match kG (α:=List (tk.T×tv.T)) c i with | some es=>some (Ob.cN (.map (g6 ka tk va tv es))) | none=>none)
 rw [n_]
 by_cases h:i=j
 ·rw [if_pos ⟨h,hj⟩,if_pos h]
 ·rw [if_neg (fun k=>h k.1),if_neg h]
theorem te {q j:Nat} {ka:Bool} {tk:Ty} {va:Bool} {tv:Ty} {es:List (tk.T×tv.T)} {k:H→Option β} (h3:q<64) (hr:AG h q j ka tk va tv es k=some r):∃h',k h'=some r∧wz h h' (.eh q j) (.cN (.map (g6 ka tk va tv es))):=by
 obtain ⟨_,hr⟩:=iT hr
 split at hr
 ·rename_i rr Yz Ww Xr Wu c hf
  split at hr
  ·rename_i e
   obtain ⟨rfl,rfl⟩:=e
   split at hr
   rotate_left
   ·cases hr
   rename_i ni pT
   obtain ⟨e,pT⟩:=ck pT
   cases e
   obtain rfl:es=ni:=pT
   refine ⟨_,hr,fun i hi=>?_,fun nq=>?_⟩
   ·have hn:=qe h3 hi
    have:=kZ (h:=h) (k:=.map ka tk va tv) (c:=upd (α:=List (tk.T×tv.T)) c j es) hf i
    rw [if_neg hn,if_neg hn] at this
    exact this
   ·have fe:j<List.length (α:=List (tk.T×tv.T)) c:=by
     rcases Nat.lt_or_ge j (List.length (α:=List (tk.T×tv.T)) c) with fe | uH
     ·exact fe
     ·exact absurd (by rw [show (Ref.eh q j).id=e_ q j from rfl,fV.2,fJ h3 hf];exact uH) nq
    exact qP (j:=j) (u:=.set (e_ q j) _) h3 hf (pN (α:=List (tk.T×tv.T)) c j _) (fun i hi=>by rw [qo (c:=c) fe,if_neg hi]) rfl (by rw [qo (c:=c) fe,if_pos rfl];exact wY) rfl
  ·cases hr
 ·cases hr
def yJ (E:Env) (T:Nat) (ins ne:Bool) (px py pz:A) (h:H) (K:A→H→Fp→Option β):Option β:=match cq E.dJ T with
 | some ⟨.map KT _,_,_,_,_,_,_⟩=>match cq E.dJ KT with
  | some e=>match px with
   | .mp (.loc q)=>match h.t.get q with
    | some (.cN (.map es))=>match iP E KT e.d py py with
     | some _=>bif lu E e.d && Nat.blt q 16777216 && !(vD h (dk q)) then sF (iP E KT e.d py) es 0 (fun res=>match res with
      | none=>eP h.t q (some (.cN (.map (es++[(py,pz)])))) (fun t1=>K .cD { h with t:=t1 } (.wr [dk q]))
      | some _=>none) else none
     | none=>none
    | _=>none
   | .mp (.eh q j)=>Sy h q j (fun ka tk va tv es=>bif DK E KT e ka tk && lu E e.d && ne then (match kA ka tk py,kA va tv pz with
    | some x,some y=>opt (FW (sH tk x) es 0) (AG h q j ka tk va tv (cat es [(x,y)]) (fun h'=>K .cD h' (.wr [g7 q])))
     (fun p=>bif ins then none else AG h q j ka tk va tv (LO es p.1 y) (fun h'=>K .cD h' (.wr [g7 q])))
    | _,_=>none) else none)
   | _=>none
  | none=>none
 | _=>none
theorem vA {κ α:Type} {p:κ→Bool}:∀(l:List (κ×α)) (i n:Nat) (v:α),FW p l i=some (n,v)→∃m k,n=i+m∧l[m]?=some (k,v)∧p k=true
 | [],_,_,_,h=>by cases h
 | (k,v)::l,i,n,v',h=>by
  unfold FW at h
  cases hk:p k with
  | true=>rw [hk] at h;cases h;exact ⟨0,k,rfl,rfl,hk⟩
  | false=>
   rw [hk] at h
   obtain ⟨m,k',h1,h2,h3⟩:=vA l (i+1) n v' h
   exact ⟨m+1,k',by omega,h2,h3⟩
theorem V.Hc {g:G} {X:Ref} {v:Value} (hv:V g (.mp X) v):∃b s,g.bl X.id=some (some b,s):=by
 cases hv with
 | mp _ b s bF=>exact ⟨b,s,bF⟩
theorem vd {E:Env} {K:Nat} {e:cp} {ka:Bool} {tk:Ty} {X:Ref} {kx:tk.T} (hs:DK E K e ka tk=true) (qR:kA ka tk (.mp X)=some kx):False:=by
 unfold kA at qR
 cases ka with
 | true=>cases qR
 | false=>
  simp only [cond_false,xp,A.cells] at qR
  obtain ⟨_,qR⟩:=ah qR
  unfold DK at hs
  split at hs
  ·simp only [Bool.not_false,Bool.true_and] at hs
   split at hs
   ·simp [oB] at qR
   ·cases hs
  ·simp at hs
  ·cases hs
theorem vu (hE:bR P E) {T:Nat} {x y z:Operand} {ins ne:Bool} (hzy:ne=true→z≠y) (ho:(ins=false∧o.op = .mapUpdate T x y z)∨(ins=true∧o.op = .insert T x y z)) (hr:yJ E T ins ne (ρ x) (ρ y) (ρ z) h K=some r):Out P o ρ h K r:=by
 have hd:∀c,o.op≠.defer c:=by rcases ho with ⟨_,ho⟩ | ⟨_,ho⟩<;>(rw [ho];intro c e;cases e)
 have Ea:o.op = .mapUpdate T x y z∨o.op = .insert T x y z:=by rcases ho with ⟨_,ho⟩ | ⟨_,ho⟩<;>simp [ho]
 have nf:x∈o.op.operands:=by rcases Ea with ho | ho<;>simp [ho,Op.operands]
 unfold yJ at hr
 split at hr
 ·rename_i KT VT _ _ _ _ _ _ ht
  have hT:=(hE.dJ _ _ ht).u
  split at hr
  ·rename_i e he
   split at hr
   ·rename_i q hx
    split at hr
    ·rename_i es hg
     split at hr
     ·rename_i b hs
      obtain ⟨h1,hr⟩:=ah hr
      simp only [zC] at h1
      have hq:=ba h1.1.2
      obtain ⟨res,k1,k2⟩:=oe _ _ _ hr
      have eN:(hp h).ob q=some (.cN (.map es)):=by rw [jM hq];unfold fh;rw [hg];rfl
      split at k1
      ·obtain ⟨_,t1,k3,k4⟩:=bm k1
       exact ⟨_,_,_,k3,.of [.set q (.cN (.map (es++[(ρ y,ρ z)])))] (oX (x:=.cN (.map (es++[(ρ y,ρ z)]))) hq k4) rfl (fun u hu=>by rcases zF.1 hu with rfl;exact aB (o:=q) hq (.head _))
        (fun S2 hA=>yG hE Ea hT he h1.1.1 hs hx ((hA q (aB hq (.head _))).1.trans eN) (fun g v hv=>hv) (fun g v hv=>hv) k2) hd⟩
      ·cases k1
     ·cases hr
    ·cases hr
   ·rename_i q j hx
    obtain ⟨ka,tk,va,tv,es,hr,hq,_,eN⟩:=xe hr
    obtain ⟨h1,hr⟩:=ah hr
    simp only [zC] at h1
    split at hr
    ·rename_i kx vy qR YJ
     have kF:x≠y:=fun e=>by rw [←e,hx] at qR;exact vd h1.1.1 qR
     have hX:A6 (.eh q j)=true:=by show Nat.blt q 64=true;simpa using hq
     have AI:∀(g:G) (S:Hp) (w:World) (a:Act),Inv g S w→(∀x∈o.op.operands,V g (ρ x) (a.eval x))→g.bl (Ref.eh q j).id≠none:=fun g S w a hI hv=>by
      have uG:=hv x nf
      rw [hx] at uG
      obtain ⟨b,s,bF⟩:=uG.Hc
      rw [bF];intro h;cases h
     have here:∀S2,Agree (.wr (iz (.eh q j)::[])) (hp h) S2→∀{S':Hp} {pv:A},(S2.ob (e_ q j)=some (.cN (.map (g6 ka tk va tv es)))→eM P o ρ S2 S' pv)→eM P o ρ S2 S' pv:=fun S2 hA _ _ k=>eM.bl fun g w a hI hv=>by
      have uG:=hv x nf
      rw [hx] at uG
      obtain ⟨b,s,bF⟩:=uG.Hc
      have ha:=hA (e_ q j) (bV (r:=q) (j:=j) hq (.head _))
      exact k (eN g S2 w b s hI ha.1 ha.2 bF)
     have WX:told ρ y (bK ka tk kx) x = .mp (.eh q j):=by rw [nB kF,hx]
     have Ns:∀g v,V g (told ρ y (bK ka tk kx) z) v→V g (bK va tv vy) v:=fun g v hv=>by
      rw [nB (hzy h1.2)] at hv;exact jJ YJ hv
     have conv:=fun {S S':Hp} {pv:A}=>eM.conv (P:=P) (o:=o) (ρ:=ρ) (ρ':=told ρ y (bK ka tk kx)) (S:=S) (S':=S') (pv:=pv) (fun x _ g v hv=>oJ (fun g v hv=>jJ qR hv) x g v hv)
     have hs:iP E KT e.d (told ρ y (bK ka tk kx) y) (told ρ y (bK ka tk kx) y)=some (sH tk kx kx):=by rw [fN];exact tF he h1.1.1 kx kx
     have hf:=j9 (va:=va) (tv:=tv) he h1.1.1 kx es 0
     rcases g_ hr with ⟨e1,hr⟩ | ⟨p,e1,hr⟩
     ·obtain ⟨h',k1,k2⟩:=te hq hr
      refine ⟨_,_,_,k1,.put hd hX k2 AI (fun S2 hA=>here S2 hA fun dU=>?_)⟩
      have e2:g6 ka tk va tv (cat es [(kx,vy)])=g6 ka tk va tv es++[(bK ka tk kx,bK va tv vy)]:=by simp [g6,cat]
      rw [e2]
      rw [e1] at hf
      exact conv (yG (X:=.eh q j) hE Ea hT he h1.1.2 hs WX dU (fun g v hv=>by rw [fN] at hv;exact hv) Ns (by rw [fN];exact hf))
     ·cases hi:ins with
      | true=>rw [hi] at hr;cases hr
      | false=>
       rw [hi] at hr;simp only [cond_false] at hr
       obtain ⟨h',k1,k2⟩:=te hq hr
       refine ⟨_,_,_,k1,.put hd hX k2 AI (fun S2 hA=>here S2 hA fun dU=>?_)⟩
       have e2:g6 ka tk va tv (LO es p.1 vy)=Bg (g6 ka tk va tv es) p.1 (bK va tv vy):=by
        unfold g6 LO Bg
        apply List.ext_getElem?
        intro m
        simp only [zL,List.getElem?_modify]
        cases es[m]? with
        | none=>rfl
        | some u=>
         by_cases hm:p.1=m
         ·simp [hm]
         ·simp [hm]
       rw [e2]
       rw [e1] at hf
       obtain ⟨m,kk,m1,m2,m3⟩:=vA es 0 p.1 p.2 e1
       have hmu:o.op = .mapUpdate T x y z:=by
        rcases ho with ⟨_,ho⟩ | ⟨hh,_⟩
        ·exact ho
        ·rw [hi] at hh;cases hh
       refine conv (Di (X:=.eh q j) (n:=p.1) hE hmu hT he h1.1.2 hs WX dU Ns (by rw [fN];exact hf) (fun g v u v' hu hv wG=>?_))
       rw [fN] at hv
       have vI:(g6 ka tk va tv es)[p.1]?=some (bK ka tk kk,bK va tv p.2):=by
        rw [m1,Nat.zero_add]
        unfold g6
        rw [zL,m2];rfl
       rw [vI] at hu
       cases hu
       exact DJ h1.1.1 m3 hv wG
    ·cases hr
   ·cases hr
  ·cases hr
 ·cases hr
end
end
section
open Go.RowKit
section
variable {P:Program} {E:Env} {o:Oper} {ρ:Operand→A} {h:H} {β:Type} {K:A→H→Fp→Option β} {r:β}
def DE (E:Env) (T:Nat) (px py:A) (h:H) (K:A→H→Fp→Option β):Option β:=match cq E.dJ T with
 | some ⟨.map KT _,_,_,_,_,_,_⟩=>match cq E.dJ KT with
  | some e=>match px with
   | .mp (.loc q)=>match h.t.get q with
    | some (.cN (.map es))=>match iP E KT e.d py py with
     | some _=>bif lu E e.d && Nat.blt q 16777216 && !(vD h (dk q)) then sF (iP E KT e.d py) es 0 (fun res=>eP h.t q (some (.cN (.map (EI es res)))) (fun t1=>K .cD { h with t:=t1 } (.wr [dk q]))) else none
     | none=>none
    | _=>none
   | .mp (.eh q j)=>Sy h q j (fun ka tk va tv es=>bif DK E KT e ka tk && lu E e.d then (match kA ka tk py with
    | some x=>opt (FW (sH tk x) es 0) (AG h q j ka tk va tv es (fun h'=>K .cD h' (.wr [g7 q])))
     (fun p=>AG h q j ka tk va tv (LQ es p.1) (fun h'=>K .cD h' (.wr [g7 q])))
    | none=>none) else none)
   | _=>none
  | none=>none
 | _=>none
theorem EL {ka:Bool} {tk:Ty} {va:Bool} {tv:Ty} (es:List (tk.T×tv.T)) (p:Option (Nat×tv.T)) :
  g6 ka tk va tv (match p with | some p=>LQ es p.1 | none=>es)=EI (g6 ka tk va tv es) (p.map fun p=>(p.1,bK va tv p.2)):=by
 cases p with
 | none=>rfl
 | some p=>
  show (es.eraseIdx p.1).map _=(es.map _).eraseIdx p.1
  generalize p.1=n
  induction es generalizing n with
  | nil=>rfl
  | cons a es ih=>cases n with
   | zero=>rfl
   | succ n=>simp only [List.map_cons,List.eraseIdx_cons_succ,List.map_cons,ih n]
theorem DD (hE:bR P E) {T:Nat} {x y:Operand} {Ts:Array TypeId} (ho:o.op = .call { callee:=.builtin .delete,args:=#[x,y],argTypes:=Ts }) (h0:Ts[0]?=some T) (hr:DE E T (ρ x) (ρ y) h K=some r):Out P o ρ h K r:=by
 have hd:∀c,o.op≠.defer c:=by rw [ho];intro c e;cases e
 have nf:x∈o.op.operands:=by simp [ho,Op.operands,Call.operands]
 unfold DE at hr
 split at hr
 ·rename_i KT VT _ _ _ _ _ _ ht
  have hT:=(hE.dJ _ _ ht).u
  split at hr
  ·rename_i e he
   split at hr
   ·rename_i q hx
    split at hr
    ·rename_i es hg
     split at hr
     ·rename_i b hs
      obtain ⟨h1,hr⟩:=ah hr
      simp only [zC] at h1
      have hq:=ba h1.1.2
      obtain ⟨res,k1,k2⟩:=oe _ _ _ hr
      have eN:(hp h).ob q=some (.cN (.map es)):=by rw [jM hq];unfold fh;rw [hg];rfl
      obtain ⟨_,t1,k3,k4⟩:=bm k1
      exact ⟨_,_,_,k3,.of [.set q (.cN (.map (EI es res)))] (oX (x:=.cN (.map (EI es res))) hq k4) rfl (fun u hu=>by rcases zF.1 hu with rfl;exact aB (o:=q) hq (.head _))
       (fun S2 hA=>qD hE ho h0 hT he h1.1.1 hs hx ((hA q (aB hq (.head _))).1.trans eN) k2) hd⟩
     ·cases hr
    ·cases hr
   ·rename_i q j hx
    obtain ⟨ka,tk,va,tv,es,hr,hq,_,eN⟩:=xe hr
    obtain ⟨h1,hr⟩:=ah hr
    simp only [zC] at h1
    split at hr
    ·rename_i kx qR
     have kF:x≠y:=fun e=>by rw [←e,hx] at qR;exact vd h1.1 qR
     have hX:A6 (.eh q j)=true:=by show Nat.blt q 64=true;simpa using hq
     have AI:∀(g:G) (S:Hp) (w:World) (a:Act),Inv g S w→(∀x∈o.op.operands,V g (ρ x) (a.eval x))→g.bl (Ref.eh q j).id≠none:=fun g S w a hI hv=>by
      have uG:=hv x nf
      rw [hx] at uG
      obtain ⟨b,s,bF⟩:=uG.Hc
      rw [bF];intro h;cases h
     have here:∀S2,Agree (.wr (iz (.eh q j)::[])) (hp h) S2→∀{S':Hp} {pv:A},(S2.ob (e_ q j)=some (.cN (.map (g6 ka tk va tv es)))→eM P o ρ S2 S' pv)→eM P o ρ S2 S' pv:=fun S2 hA _ _ k=>eM.bl fun g w a hI hv=>by
      have uG:=hv x nf
      rw [hx] at uG
      obtain ⟨b,s,bF⟩:=uG.Hc
      have ha:=hA (e_ q j) (bV (r:=q) (j:=j) hq (.head _))
      exact k (eN g S2 w b s hI ha.1 ha.2 bF)
     have WX:told ρ y (bK ka tk kx) x = .mp (.eh q j):=by rw [nB kF,hx]
     have conv:=fun {S S':Hp} {pv:A}=>eM.conv (P:=P) (o:=o) (ρ:=ρ) (ρ':=told ρ y (bK ka tk kx)) (S:=S) (S':=S') (pv:=pv) (fun x _ g v hv=>oJ (fun g v hv=>jJ qR hv) x g v hv)
     have hs:iP E KT e.d (told ρ y (bK ka tk kx) y) (told ρ y (bK ka tk kx) y)=some (sH tk kx kx):=by rw [fN];exact tF he h1.1 kx kx
     have hf:=j9 (va:=va) (tv:=tv) he h1.1 kx es 0
     have main:∀p,FW (sH tk kx) es 0=p→AG h q j ka tk va tv (match p with | some p=>LQ es p.1 | none=>es) (fun h'=>K .cD h' (.wr [g7 q]))=some r→Out P o ρ h K r:=fun p D8 hr=>by
      obtain ⟨h',k1,k2⟩:=te hq hr
      refine ⟨_,_,_,k1,.put hd hX k2 AI (fun S2 hA=>here S2 hA fun dU=>?_)⟩
      rw [D8] at hf
      rw [EL]
      exact conv (qD (X:=.eh q j) hE ho h0 hT he h1.2 hs WX dU (by rw [fN];exact hf))
     rcases g_ hr with ⟨e1,hr⟩ | ⟨p,e1,hr⟩
     ·exact main none e1 hr
     ·exact main (some p) e1 hr
    ·cases hr
   ·cases hr
  ·cases hr
 ·cases hr
def xx:List (Nat×Nat)→Nat→Option Nat
 | [],_=>none
 | (t,r)::l,T=>bif Nat.beq t T then some r else xx l T
def C6 (h:H) (q:Nat) (t:Ty) (x:t.T) (k:Nat→H→Option β):Option β:=bif vD h (g7 q) then none else match bn h.rg q with
 | some ⟨_,.box t',c⟩=>match fp t t' x with
  | some x'=>bif Nat.blt q 64 then k (len (α:=t'.T) c) { h with rg:=iY h.rg q (.box t') (cat (α:=t'.T) c [x']) } else none
  | none=>none
 | _=>none
theorem vc {q:Nat} {t:Ty} {x:t.T} {k:Nat→H→Option β} (hr:C6 h q t x k=some r):∃h' j,k j h'=some r∧q<64∧(hp h).fr (e_ q j)∧hp h'=app [.new (e_ q j) (.cells (aA t x))] (hp h):=by
 obtain ⟨_,hr⟩:=iT hr
 split at hr
 ·rename_i rr t' c hf
  split at hr
  ·rename_i x' hx
   obtain ⟨e,hx⟩:=ck hx
   subst e
   obtain rfl:x=x':=hx
   obtain ⟨h1,hr⟩:=ah hr
   have h3:q<64:=ba h1
   refine ⟨_,_,hr,h3,?_,?_⟩
   ·rw [fV.2,fJ h3 hf];exact Nat.le_refl _
   ·exact nX (k:=.box t) (c:=cat (α:=t.T) c [x]) (n:=List.length (α:=t.T) c) h3 hf rfl (nT (α:=t.T) c _) (fun j=>qt (c:=c) (x:=x) j)
  ·cases hr
 ·cases hr
theorem V.GJ {g:G} {q j:Nat} {v:Value} (hv:V g (.ptr (e_ q j) 0) v):V g (.tp (.eh q j) []) v:=by
 cases hv with
 | ptr _ _ b s hb=>exact .tp (.eh q j) [] b s hb trivial
def M5 (E:Env) (hm:List (Nat×Nat)) (T:Nat) (h:H) (K:A→H→Fp→Option β):Option β:=match xx hm T with
 | some q=>match cq E.dJ T with
  | some e=>match e.t with
   | some t=>C6 h q t t.cF (fun j h'=>K (.tp (.eh q j) []) h' (.wr [g7 q]))
   | none=>none
  | none=>none
 | none=>M6 E T h K
theorem Ir (hE:bR P E) {hm:List (Nat×Nat)} {T:Nat} (ho:o.op = .alloc T) (hr:M5 E hm T h K=some r):Out P o ρ h K r:=by
 have hd:∀c,o.op≠.defer c:=by rw [ho];intro c e;cases e
 unfold M5 at hr
 split at hr
 ·rename_i q _
  split at hr
  ·rename_i e ht
   have hk:=hE.dJ _ _ ht
   obtain ⟨i,t1,t2,t3,t4,t5,t6⟩:=hk.ti
   split at hr
   ·rename_i t wH
    obtain ⟨h',j,k1,hq,hf,hh⟩:=vc hr
    exact ⟨_,_,_,k1,Step.Ci (.of _ hh rfl (fun u hu=>by rcases zF.1 hu with rfl;exact bV (r:=q) (j:=j) hq (.head _)) (fun S2 hA=>m6 ho t1 t2 (hk.tz t wH) ((hA _ (bV (r:=q) (j:=j) hq (.head _))).2.2 hf)) hd) (fun g v hv=>hv.GJ)⟩
   ·cases hr
  ·cases hr
 ·exact Is hE ho hr
def MW (E:Env) (hm:List (Nat×Nat)) (T:Nat) (px:A) (h:H) (K:A→H→Fp→Option β):Option β:=match xx hm T with
 | some q=>match cq E.dJ T,px.cells with
  | some e,some ps=>match e.t with
   | some t=>match fixC 64 t ps h with
    | some (tj,h1,T1)=>match oB t tj with
     | some x=>C6 h1 q t x (fun j h'=>K (.tp (.eh q j) []) h' (.wr (g7 q::T1)))
     | none=>none
    | none=>none
   | none=>none
  | _,_=>none
 | none=>Ff E T px h K
theorem Step.Yn {T1:List Nat} {h1 h2:H} {us:List Up} {x:Ob} {pv:A} {q j:Nat} (c1:hp h1=app us (hp h)) (c2:∀u∈us,touch (.wr T1) u.id=true) (hq:q<64) (hf:(hp h1).fr (e_ q j)) (hh:hp h2=app [.new (e_ q j) x] (hp h1)) (hd:∀c,o.op≠.defer c)
  (k:∀S2 g w a,Agree (.wr T1) (hp h) S2→(app us S2).fr (e_ q j)→Inv g S2 w→(∀x∈o.op.operands,V g (ρ x) (a.eval x))→rZ P o S2 ((app us S2).new (e_ q j) x) pv g w a):Step P o ρ h h2 (.wr (g7 q::T1)) pv:=
 .of (us++[.new (e_ q j) x]) (by rw [ib,←c1,hh]) rfl (fun u hu=>by
  rcases zX.1 hu with hu | hu
  ·exact eO (fun i hi=>.tail _ hi) (c2 u hu)
  ·rcases zF.1 hu with rfl;exact bV (r:=q) (j:=j) hq (.head _)) (fun S2 hA g w a next Q hI hv K'=>by
  have nq:(app us S2).fr (e_ q j):=by
   have:=Agree.app us hA
   rw [←c1] at this
   exact (this (e_ q j) (bV hq (.head _))).2.2 hf
  have e:=ib us [.new (e_ q j) x] S2
  rw [e] at K'
  exact k S2 g w a (hA.mono fun i hi=>.tail _ hi) nq hI hv next Q K') hd
theorem Ii {S:Hp} {T:TypeId} {x:Operand} {qs:List A} {q:Nat} {g:G} {w:World} {a:Act} (ho:o.op = .box T x) (hI:Inv g S w) (e2:Vs g qs (a.eval x).cells.toList) (hf:S.fr q):rZ P o S (S.new q (.cells qs)) (.ptr q 0) g w a:=by
 intro next Q K
 obtain ⟨h1,h2⟩:=hI.lg hf (cs:=qs) (vs:=(a.eval x).cells) T (by have:=e2.1;simp at this ⊢;omega) e2.all
 unfold Oper.wp
 simp only [execOp,ho,Instr.box,Sem.run_bind,Result.andThen_ok,Sem.run_pure,newVar,newRow,run_newObj]
 exact K _ _ _ (.ptr _ _ w.heap.size _ b_) h1 h2
theorem Ig {hm:List (Nat×Nat)} {T:Nat} {x:Operand} (ho:o.op = .box T x) (hr:MW E hm T (ρ x) h K=some r):Out P o ρ h K r:=by
 have hd:∀c,o.op≠.defer c:=by rw [ho];intro c e;cases e
 unfold MW at hr
 split at hr
 ·rename_i q _
  split at hr
  ·rename_i e ps ht rU
   split at hr
   ·rename_i t wH
    split at hr
    ·rename_i tj h1 T1 hf
     split at hr
     ·rename_i y hy
      obtain ⟨us,c1,c2,c3⟩:=od _ _ _ _ _ _ _ hf
      obtain ⟨h',j,k1,hq,nq,hh⟩:=vc hr
      refine ⟨_,_,_,k1,Step.Ci (pv:=.ptr (e_ q j) 0) (.Yn c1 c2 hq nq hh hd (fun S2 g w a hA hf hI hv=>?_)) (fun g v hv=>?_)⟩
      ·obtain ⟨g1,q1,q2,q3⟩:=c3 g S2 w _ hI hA ((hv x (by simp [ho,Op.operands])).cells rU)
       refine rZ.pre ?_ q2
       exact Ii ho q1 ((iW t tj y hy).2 _ q3) hf
      ·cases hv with
       | ptr _ _ b s h0=>exact .tp (.eh q j) [] b s h0 trivial
     ·cases hr
    ·cases hr
   ·cases hr
  ·cases hr
 ·exact E_ ho hr
end
end
section
variable {P:Program} {E:Env} {o:Oper} {ρ:Operand→A} {h:H} {β:Type} {K:A→H→Fp→Option β} {r:β}
def ZI (E:Env) (T f:Nat) (px:A) (h:H) (K:A→H→Fp→Option β):Option β:=match px with
 | .agg cs=>match cq E.dJ T with
  | some ⟨.struct fs,_,_,_,_,_,_⟩=>match fs[f]? with
   | some fd=>match cq E.dJ fd.type with
    | some e=>bif jt e.d then K (.agg ((cs.drop fd.offset).take e.size)) h .no else (match (cs.drop fd.offset).take e.size with
     | [p]=>Cw p (fun v=>K v h .no)
     | _=>none)
    | none=>none
   | none=>none
  | _=>none
 | _=>none
theorem V.Wd {g:G} {cs:List A} {u:Value} (h:V g (.agg cs) u):∃vs,u = .agg vs∧Vs g cs vs.toList:=by
 cases h with
 | agg _ vs hl h1 hh=>
  refine ⟨vs,rfl,by simpa using hl,fun j c x a b=>?_⟩
  have b':vs[j]?=some x:=by simpa using b
  exact ⟨hh j c x a b',h1 x (zG b)⟩
theorem Mn (hE:bR P E) {T f:Nat} {x:Operand} (ho:o.op = .field T x f) (hr:ZI E T f (ρ x) h K=some r):Out P o ρ h K r:=by
 have hd:∀c,o.op≠.defer c:=by rw [ho];intro c e;cases e
 unfold ZI at hr
 split at hr
 ·rename_i cs hx
  split at hr
  ·rename_i fs _ _ _ _ t _ ht
   split at hr
   ·rename_i fd hf
    split at hr
    ·rename_i e he
     have key:∀{S2:Hp} {v:A},(∀g xs,Vs g ((cs.drop fd.offset).take e.size) xs→∃u,valOf e.d xs u∧V g v u)→eM P o ρ S2 S2 v:=fun {S2 v} hk=>.value fun g w a _ hv=>by
      have e1:=hv x (by simp [ho,Op.operands])
      rw [hx] at e1
      obtain ⟨vs,e2,e3⟩:=e1.Wd
      obtain ⟨u,h1,h2⟩:=hk g _ (e3.part fd.offset e.size)
      refine ⟨u,?_,h2⟩
      simp only [execOp,ho,e2,Sem.run_bind,Instr.field,run_underlying (hE.dJ _ _ ht).u,Result.andThen_ok,hf,asAgg,Sem.run_pure,nI (hE.dJ _ _ he) h1 w]
     cases ha:jt e.d with
     | true=>
      rw [ha] at hr
      refine .pure hr (fun S2=>key fun g xs xu=>⟨.agg xs.toArray,by simp [valOf,ha],?_⟩) hd
      exact .agg _ _ (by simpa using xu.1) (fun v hm=>by
       obtain ⟨j,hj⟩:=List.getElem?_of_mem hm
       simp only [List.toList_toArray] at hj
       have fe:j<((cs.drop fd.offset).take e.size).length:=by
        have:=(zB.1 hj).1;have:=xu.1;omega
       exact (xu.2 j _ v (zD fe) hj).2) (fun i c y h1 h2=>(xu.2 i c y h1 (by simpa using h2)).1)
     | false=>
      rw [ha] at hr
      simp only [cond_false] at hr
      split at hr
      ·rename_i p hp
       refine .sp hr (.pure (fun S2=>key fun g xs xu=>?_) hd)
       rw [hp] at xu
       obtain ⟨z,e1,e2⟩:=xu.single
       exact ⟨z,by simp [valOf,ha,e1],e2⟩
      ·cases hr
    ·cases hr
   ·cases hr
  ·cases hr
 ·cases hr
def isNil (py:A):Bool:=match py with
 | .v (.slice none 0 0)=>true
 | _=>false
theorem DV {py:A} (h:isNil py=true):py = .v (.slice none 0 0):=by
 unfold isNil at h
 split at h
 ·rfl
 ·cases h
def EJ (E:Env) (op:BinOp) (T:Nat) (X:Ref) (z:Nat) (h:H) (K:A→H→Fp→Option β):Option β:=bif isEq op then (match cq E.dJ T with
  | some e=>match e.d with
   | .slice _=>iZ h X (fun t l=>bif Nat.beq z t.size && Nat.blt 0 z then gd (bD 0 (len l)) (K (.v (.bool (Bc op false))) h (.rd [iz X])) else none)
   | _=>none
  | none=>none) else none
def Mx (E:Env) (op:BinOp) (T:Nat) (px py:A) (h:H) (K:A→H→Fp→Option β):Option β:=match px with
 | .tw X z=>bif isNil py then EJ E op T X z h K else Fh E op T px py h K
 | .os r z o=>bif isNil py then opt o none (fun j=>EJ E op T (.eh r j) z h K) else Fh E op T px py h K
 | _=>Fh E op T px py h K
theorem GY {S:Hp} {op:BinOp} {T T' E:TypeId} {x y:Operand} (ho:o.op = .binOp op T x y T') (hT:P.underlying T=some (.slice E)) (rD:op = .eql∨op = .neq)
  (hy:ρ y = .v (.slice none 0 0)) (hx:∀g w v,Inv g S w→V g (ρ x) v→∃a n c,v = .slice (some a) n c):eM P o ρ S S (.v (.bool (if op = .eql then false else !false))):=
 .value fun g w a hI hv=>by
  have e2:=hv y (by simp [ho,Op.operands])
  rw [hy] at e2
  have e2:=e2.fS
  obtain ⟨A,n,c,h1⟩:=hx g w _ hI (hv x (by simp [ho,Op.operands]))
  have eH:=yu (P:=P) w hT (some A) n c
  refine ⟨.bool (if op = .eql then false else !false),?_,.v _⟩
  have jN:(eqGuard op T x y (.slice (some A) n c) (.slice none 0 0)).run P w = .ok () w:=by
   rcases rD with rfl | rfl<;>rfl
  rcases rD with rfl | rfl
  ·have hb:(binOp .eql T (.slice (some A) n c) (.slice none 0 0)).run P w = .ok (.bool false) w:=by
    simp only [binOp];simp [Op.equal,Op.maxDepth,eH]
   simp only [execOp,ho,h1,e2,Sem.run_bind,jN,Result.andThen_ok,if_true,hb,Sem.run_pure]
  ·have hb:(binOp .neq T (.slice (some A) n c) (.slice none 0 0)).run P w = .ok (.bool (!false)) w:=by
    simp only [binOp];simp [Op.equal,Op.maxDepth,eH]
   simp only [execOp,ho,h1,e2,Sem.run_bind,jN,Result.andThen_ok,hb,Sem.run_pure]
   rfl
theorem zf (hE:bR P E) {op:BinOp} {T T':TypeId} {x y:Operand} {X:Ref} {z:Nat} (ho:o.op = .binOp op T x y T') (hn:isNil (ρ y)=true) (hx:∀g v,V g (ρ x) v→V g (.tw X z) v) (hr:EJ E op T X z h K=some r):Out P o ρ h K r:=by
 have hd:∀c,o.op≠.defer c:=by rw [ho];intro c e;cases e
 have hy:=DV hn
 unfold EJ at hr
 obtain ⟨hq,hr⟩:=ah hr
 split at hr
 ·rename_i e ht
  split at hr
  ·rename_i el B5
   obtain ⟨t,l,hr,hX,eN⟩:=eF hr
   obtain ⟨hz,hr⟩:=ah hr
   simp only [zC] at hz
   have SO:=beq_eq hz.1
   have h0:=ba hz.2
   obtain ⟨hl,hr⟩:=bq hr
   have hl:0<l.length:=hl
   refine .read _ hr (fun S2 hA=>?_) hd
   have dU:=(hA _ (bC hX (.head _))).1.trans eN
   rw [nQ _ hq]
   refine GY ho (by rw [(hE.dJ _ _ ht).u,B5]) (kX hq) hy (fun g w v hI hv=>?_)
   have hv:=hx _ _ hv
   rw [SO] at hv
   rcases hv.qb hI (by omega) dU with ⟨ad,_,rfl,rfl⟩ | ⟨b,s,cap,d,_,rfl,_⟩
   ·cases hl
   ·exact ⟨_,_,_,rfl⟩
  ·cases hr
 ·cases hr
theorem H3 (hE:bR P E) {op:BinOp} {T T':TypeId} {x y:Operand} (ho:o.op = .binOp op T x y T') (hr:Mx E op T (ρ x) (ρ y) h K=some r):Out P o ρ h K r:=by
 unfold Mx at hr
 split at hr
 ·rename_i X z hx
  cases hn:isNil (ρ y) with
  | true=>
   rw [hn] at hr
   exact zf hE ho hn (fun g v hv=>by rwa [hx] at hv) hr
  | false=>
   rw [hn] at hr
   exact uk hE ho hr
 ·rename_i ri z oo hx
  cases hn:isNil (ρ y) with
  | true=>
   rw [hn] at hr
   rcases g_ (show opt oo none (fun j=>EJ E op T (.eh ri j) z h K)=some r from hr) with ⟨_,h2⟩ | ⟨j,h1,h2⟩
   ·cases h2
   ·exact zf hE ho hn (fun g v hv=>by
     rw [hx] at hv
     cases hv with
     | os _ _ _ _ _ k1=>exact k1 j h1) h2
  | false=>
   rw [hn] at hr
   exact uk hE ho hr
 ·exact uk hE ho hr
end
section
open Go.RowKit
section
variable {P:Program} {E:Env} {o:Oper} {ρ:Operand→A} {h:H} {β:Type} {K:A→H→Fp→Option β} {r:β}
structure sO (P:Program) (f:FuncId) (aa:List A) (h h':H) (T:Fp) (pv:A):Prop where
 out:∀i,touch T i=false→(hp h').ob i=(hp h).ob i∧((hp h').fr i↔(hp h).fr i)
 rd:∀i,wt T i=false→(hp h').ob i=(hp h).ob i∧((hp h').fr i↔(hp h).fr i)
 fn:uA P f
 ok:∀S2,Agree T (hp h) S2→PC P f aa S2 (ig T (hp h') S2) pv
def RC (P:Program) (y:A) (aa:List A) (S S':Hp) (r:A):Prop:=
 ∀g w u (vs:List Value),Inv g S w→V g y u→aa.length=vs.length→(∀(i:Nat) (p:A) (v:Value),aa[i]?=some p→vs[i]?=some v→V g p v) →
  ∃(b:Nat) (rr:Loop),u = .func (.yield b) #[] #[]∧w.heap[b]?=some (.loop rr)∧rr.params.size=vs.length ∧
   RoundIn (FR none) 0 P b rr.fn ((rr.params.zip vs.toArray).foldl (fun tmps (t,a)=>tmps.setIfInBounds t a) rr.tmps) rr.assign rr.body w (fun e w'=>∃v g',e = .returned v∧V g' r v∧Inv g' S' w'∧Ext S g w S' g' w')
structure K4 (P:Program) (y:A) (aa:List A) (h h':H) (T:Fp) (pv:A):Prop where
 out:∀i,touch T i=false→(hp h').ob i=(hp h).ob i∧((hp h').fr i↔(hp h).fr i)
 rd:∀i,wt T i=false→(hp h').ob i=(hp h).ob i∧((hp h').fr i↔(hp h).fr i)
 ok:∀S2,Agree T (hp h) S2→RC P y aa S2 (ig T (hp h') S2) pv
theorem A0 {y:A} {x:Operand} {xs:Array Operand} {ts:Array TypeId} {S S':Hp} {r:A} (ho:o.op = .call { callee:=.value x,args:=xs,argTypes:=ts }) (hx:ρ x=y) (h:RC P y (xs.toList.map ρ) S S' r):BT P o ρ S S' r:=by
 intro ro g w a next Q hI hv K
 have e1:=hx▸hv x (by simp [ho,Op.operands,Call.operands])
 obtain ⟨b,rr,hu,h1,h2,h3⟩:=h g w (a.eval x) (xs.toList.map a.eval) hI e1 (by simp) (fun i p v k1 k2=>by
  simp only [zL,Option.map_eq_some_iff,Array.getElem?_toList] at k1 k2
  obtain ⟨y,hy,rfl⟩:=k1
  obtain ⟨y',xt,rfl⟩:=k2
  rw [hy] at xt
  obtain rfl:=Option.some.inj xt
  exact hv y (by simp only [ho,Op.operands,Call.operands];exact Array.mem_append.2 (.inr (Array.mem_of_getElem? hy))))
 refine ⟨fun f _=>trivial,?_⟩
 rw [Oper.semAt_eq _ _ _ (by rw [ho];intro c h;cases h)]
 have ea : #[]++Array.map a.eval xs=(xs.toList.map a.eval).toArray:=by apply Array.ext';simp
 have e:(execOp a.eval o).run P w = .ok (.round b rr.fn ((rr.params.zip (xs.toList.map a.eval).toArray).foldl (fun tmps (t,a)=>tmps.setIfInBounds t a) rr.tmps) rr.assign rr.body) w:=by
  simp only [execOp,ho,resolve,hu,Deferred.ofValue,pure_bind,invoke]
  rw [ea]
  exact run_yield h1 (by simp [h2])
 rw [e]
 refine ⟨fun h=>by simp [FR,Fence.wide] at h,RoundIn.mono (F:=FR ro) h3 ?_⟩
 rintro e w' ⟨v,g',rfl,k1,k2,k3⟩
 exact K v g' w' k1 k2 k3
structure Cx where
 call:(β:Type)→FuncId→List A→H→(A→H→Fp→Option β)→Option β
 hm:List (Nat×Nat)
 rA:(β:Type)→A→List A→H→(A→H→Fp→Option β)→Option β
structure kO (P:Program) (cx:Cx):Prop where
 call:∀(β:Type) (f:FuncId) (aa:List A) (h:H) (K:A→H→Fp→Option β) (r:β),cx.call β f aa h K=some r→∃pv h' T,K pv h' T=some r∧sO P f aa h h' T pv
 rA:∀(β:Type) (y:A) (aa:List A) (h:H) (K:A→H→Fp→Option β) (r:β),cx.rA β y aa h K=some r→∃pv h' T,K pv h' T=some r∧K4 P y aa h h' T pv
def E9 (cx:Cx) (px:A) (aa:List A) (h:H) (K:A→H→Fp→Option β):Option β:=match px with
 | .fn f fi ca=>cx.call β f (fi++aa++ca) h K
 | .rA _ _ _ _ _ _ _=>cx.rA β px aa h K
 | _=>none
theorem E8 {cx:Cx} (hx:kO P cx) {x:Operand} {xs:Array Operand} {ts:Array TypeId} (ho:o.op = .call { callee:=.value x,args:=xs,argTypes:=ts }) (hr:E9 cx (ρ x) (xs.toList.map ρ) h K=some r):Out P o ρ h K r:=by
 have hd:∀c,o.op≠.defer c:=by rw [ho];intro c e;cases e
 unfold E9 at hr
 split at hr
 ·rename_i f fi ca D8
  obtain ⟨pv,h',T,k1,k2⟩:=hx.call β f _ h K r hr
  exact ⟨pv,h',T,k1,⟨k2.out,k2.rd,fun S2 hA=>(AY ho k2.fn D8 (k2.ok S2 hA)).Kj hd⟩⟩
 ·rename_i D8
  obtain ⟨pv,h',T,k1,k2⟩:=hx.rA β _ _ h K r hr
  exact ⟨pv,h',T,k1,⟨k2.out,k2.rd,fun S2 hA=>A0 ho D8 (D8▸k2.ok S2 hA)⟩⟩
 ·cases hr
def yq:Operand→Operand→Bool
 | .tmp i,.tmp j=>Nat.beq i j
 | .const (.int .i64 (.ofNat a)),.const (.int .i64 (.ofNat b))=>Nat.beq a b
 | _,_=>false
theorem uT {x y:Operand} (h:yq x y=true):x=y:=by
 unfold yq at h
 split at h
 ·rw [beq_eq h]
 ·rw [beq_eq h]
 ·cases h
def WL:Operand→Operand→Bool
 | .tmp i,.tmp j=>!(Nat.beq i j)
 | .tmp _,.const _=>true
 | .const _,.tmp _=>true
 | _,_=>false
theorem Dx {x y:Operand} (h:WL x y=true):y≠x:=by
 rintro rfl
 cases y<;>simp [WL] at h
def uU:Option Operand→Option Operand→Bool
 | some x,some y=>yq x y
 | _,_=>false
theorem CI {x y:Option Operand} (h:uU x y=true):x=y:=by
 unfold uU at h
 split at h
 ·rw [uT h]
 ·cases h
def MZ (E:Env) (b:Builtin) (xs:List Operand) (ts:List TypeId) (ρ:Operand→A) (h:H) (K:A→H→Fp→Option β):Option β:=match b,xs,ts with
 | .append,[x,y],[T,T']=>bif Nat.beq T T' then M4 E T (ρ x) (ρ y) h K else none
 | .len,[x],[T]=>LW E T (ρ x) h K
 | .min,[x,y],_=>Np false (ρ x) (ρ y) h K
 | .max,[x,y],_=>Np true (ρ x) (ρ y) h K
 | .copy,[x,y],[T,_]=>E4 E T (ρ x) (ρ y) h K
 | .clear,[x],[T]=>MR E T (ρ x) h K
 | .delete,[x,y],T::_=>DE E T (ρ x) (ρ y) h K
 | _,_,_=>none
theorem Ij (hE:bR P E) {b:Builtin} {xs:Array Operand} {ts:Array TypeId} (ho:o.op = .call { callee:=.builtin b,args:=xs,argTypes:=ts }) (hr:MZ E b xs.toList ts.toList ρ h K=some r):Out P o ρ h K r:=by
 obtain ⟨xs⟩:=xs
 obtain ⟨ts⟩:=ts
 simp only at hr
 unfold MZ at hr
 split at hr
 ·obtain ⟨hT,hk⟩:=ah hr
  clear hr
  obtain rfl:=beq_eq hT
  exact Io hE ho hk
 ·exact Hi hE ho hr
 ·exact Hd ho hr
 ·exact He ho hr
 ·exact E3 hE ho hr
 ·exact Ic hE ho hr
 ·exact DD hE ho rfl hr
 ·cases hr
theorem BT.abt {P:Program} {op':Op} {ρ:Operand→A} {S S':Hp} {v:A} (hd:∀c,o.op≠.defer c) (mE:∀c,op'≠.defer c) (hs:∀x∈op'.operands,x∈o.op.operands) (he:∀(g:G) (a:Act),(∀x∈o.op.operands,V g (ρ x) (a.eval x))→execOp a.eval o=execOp a.eval { o with op:=op' }) (h:BT P { o with op:=op' } ρ S S' v):BT P o ρ S S' v:=by
 intro r g w a next Q hI hv K
 have h1:=h r g w a next Q hI (fun x hx=>hv x (hs x hx)) K
 refine ⟨fun f _=>trivial,?_⟩
 have h2:=h1.2
 rw [Oper.semAt_eq _ _ _ mE] at h2
 rw [Oper.semAt_eq _ _ _ hd,he g a hv]
 exact h2
def L1 (E:Env) (T:Nat) (X:Ref) (z:Nat) (lo hi mx:Option A) (h:H) (K:A→H→Fp→Option β):Option β:=match cq E.dJ T with
 | some ⟨.slice el,_,_,_,_,_,_⟩=>match cq E.dJ el with
  | some e=>iZ h X (fun t x=>bif Nat.beq z e.size && Nat.beq z t.size && Nat.blt 0 z then BO lo 0 (fun l=>BO hi 0 (fun n=>BO mx 0 (fun m=>gd (bp l n) (gd (bp n m) (gd (bp m (len x)) (K .cD h (.rd [iz X]))))))) else none)
  | none=>none
 | _=>none
theorem Ho (hE:bR P E) {T:Nat} {X:Ref} {z:Nat} {x lo hi mx:Operand} (ho:o.op = .slice T x (some lo) (some hi) (some mx)) (hx:ρ x = .tw X z) (hr:L1 E T X z (some (ρ lo)) (some (ρ hi)) (some (ρ mx)) h K=some r):Out P o ρ h K r:=by
 have hd:∀c,o.op≠.defer c:=by rw [ho];intro c e;cases e
 unfold L1 at hr
 split at hr
 ·rename_i el _ _ _ _ _ _ ht
  have hT:=(hE.dJ _ _ ht).u
  split at hr
  ·rename_i e he
   have hz:=(hE.dJ _ _ he).ti.size
   obtain ⟨t,x',hr,hX,eN⟩:=eF hr
   obtain ⟨hq,hr⟩:=ah hr
   simp only [zC] at hq
   have Nw:=beq_eq hq.1.1
   have D5:=beq_eq hq.1.2
   have h0:=ba hq.2
   obtain ⟨l,hr,tS⟩:=jR (x:=some lo) hr
   obtain ⟨n,hr,tT⟩:=jR (x:=some hi) hr
   obtain ⟨m,hr,W2⟩:=jR (x:=some mx) hr
   obtain ⟨h1,hr⟩:=bq hr
   obtain ⟨h2,hr⟩:=bq hr
   obtain ⟨h3,hr⟩:=bq hr
   have h1:l≤n:=h1
   have h2:n≤m:=h2
   have h3:m≤x'.length:=h3
   refine .read [iz X] hr (fun S2 hA=>qB ho hT hz tS tT W2 h1 h2 (fun g w v hI hv=>?_)) hd
   have dU:=(hA _ (bC hX (.head _))).1.trans eN
   rw [hx,D5] at hv
   obtain ⟨ad,cap,k1,k2,_,_⟩:=hv.JG (lo:=l) (hi:=n) hI (by omega) dU h1 (by omega)
   exact ⟨ad,_,cap,k1,by omega,.cD _⟩
  ·cases hr
 ·cases hr
def SN:A→Bool
 | .tw _ _=>true
 | _=>false
def Ld (E:Env) (T:Nat) (px:A) (lo hi mx:Option A) (same:Bool) (h:H) (K:A→H→Fp→Option β):Option β:=bif same then CA E T px lo hi mx true h K else bif SN px && lo.isSome && mx.isSome && hi.isSome then (match px with
 | .tw X z=>L1 E T X z lo hi mx h K
 | _=>none) else (match mx,hi with
 | some (.v (.int k m)),some (.v (.int k' n))=>if k=k' then gd (Hu m n) (CA E T px lo hi hi true h K) else none
 | mx,hi=>CA E T px lo hi mx false h K)
theorem Gp (hE:bR P E) {T:Nat} {x:Operand} {lo hi mx:Option Operand} (ho:o.op = .slice T x lo hi mx) (hr:Ld E T (ρ x) (lo.map ρ) (hi.map ρ) (mx.map ρ) (uU mx hi) h K=some r):Out P o ρ h K r:=by
 unfold Ld at hr
 cases hb:uU mx hi with
 | true=>rw [hb] at hr;exact sX hE ho (fun _=>CI hb) hr
 | false=>
  rw [hb] at hr
  simp only [cond_false] at hr
  cases ht:(SN (ρ x) && (lo.map ρ).isSome && (mx.map ρ).isSome && (hi.map ρ).isSome) with
  | true=>
   rw [ht] at hr
   simp only [cond_true] at hr
   simp only [zC] at ht
   obtain ⟨lo',rfl⟩:=isSome_map ht.1.1.2
   obtain ⟨mx',rfl⟩:=isSome_map ht.1.2
   obtain ⟨KE,rfl⟩:=isSome_map ht.2
   split at hr
   ·rename_i X z hx
    exact Ho hE ho hx hr
   ·cases hr
  | false=>
  rw [ht] at hr
  simp only [cond_false] at hr
  split at hr
  ·rename_i k m k' n hm hn
   split at hr
   ·rename_i hk
    subst hk
    obtain ⟨he,sB⟩:=bq hr
    clear hr
    have he:m=n:=he
    subst he
    cases hi with
    | none=>cases hn
    | some hi=>
    cases mx with
    | none=>cases hm
    | some mx=>
    have hn:ρ hi = .v (.int k m):=Option.some.inj hn
    have hm:ρ mx = .v (.int k m):=Option.some.inj hm
    obtain ⟨pv,h',T',k1,k2⟩:=sX (o:={ o with op:=.slice T x lo (some hi) (some hi) }) hE rfl (fun _=>rfl) sB
    refine ⟨pv,h',T',k1,k2.out,k2.rd,fun S2 hA=>BT.abt (op':=.slice T x lo (some hi) (some hi)) (by rw [ho];intro c e;cases e) (fun c e=>by cases e) (fun y hy=>?_) (fun g a hv=>?_) (k2.ok S2 hA)⟩
    ·rw [ho]
     simp only [Op.operands,Array.mem_append] at hy ⊢
     rcases hy with (hy | hy) | hy
     ·exact .inl (.inl hy)
     ·exact .inl (.inr hy)
     ·exact .inl (.inr hy)
    ·have e1:=hv mx (by rw [ho];simp [Op.operands])
     have e2:=hv hi (by rw [ho];simp [Op.operands])
     rw [hm] at e1
     rw [hn] at e2
     have e3:=e1.fS.trans e2.fS.symm
     simp only [execOp,ho,Option.map_some,e3]
   ·cases hr
  ·exact sX hE ho (fun h=>by cases h) hr
def Ym (E:Env) (cx:Cx) (op:Op) (ρ:Operand→A) (h:H) (K:A→H→Fp→Option β):Option β:=match op with
 | .move x=>mvK (ρ x) h K
 | .assign x=>mvK (ρ x) h K
 | .pick c x y=>Dc (ρ c) (ρ x) (ρ y) h K
 | .extract x i=>Mw (ρ x) i h K
 | .binOp op T x y _=>Mx E op T (ρ x) (ρ y) h K
 | .unOp op _ x=>Xs op (ρ x) h K
 | .convert s d x=>cvK E s d (ρ x) h K
 | .nilCheck x=>Sv (ρ x) h K
 | .fieldAddr T x f=>Ms E T f (ρ x) h K
 | .field T x f=>ZI E T f (ρ x) h K
 | .indexAddr T x y=>YC E T (ρ x) y (ρ y) h K
 | .load T x=>LY E T (ρ x) h K
 | .store T x y=>X_ E T (ρ x) (ρ y) h K
 | .alloc T=>M5 E cx.hm T h K
 | .box T x=>MW E cx.hm T (ρ x) h K
 | .build T ps=>M0 E T ρ ps.toList h K
 | .buildSlice T n ps=>MX E T n ρ ps.toList h K
 | .makeSlice T x y=>Yr E T (yq x y) (ρ x) h K
 | .slice T x lo hi mx=>Ld E T (ρ x) (lo.map ρ) (hi.map ρ) (mx.map ρ) (uU mx hi) h K
 | .makeFunc (.func f) fi ca=>SA f (fi.toList.map ρ) (ca.toList.map ρ) h K
 | .makeMap _ none=>Sz h K
 | .lookup T x y ok=>LU E T ok (ρ x) (ρ y) h K
 | .mapUpdate T x y z=>yJ E T false (WL y z) (ρ x) (ρ y) (ρ z) h K
 | .insert T x y z=>yJ E T true (WL y z) (ρ x) (ρ y) (ρ z) h K
 | .call c=>match c.callee with
  | .value x=>E9 cx (ρ x) (c.args.toList.map ρ) h K
  | .builtin b=>MZ E b c.args.toList c.argTypes.toList ρ h K
  | _=>none
 | _=>none
theorem LM (hE:bR P E) {cx:Cx} (hx:kO P cx) (hr:Ym E cx o.op ρ h K=some r):Out P o ρ h K r:=by
 generalize ho:o.op=op at hr
 have nd:∀{op:Op},o.op=op→(∀c,op≠.defer c)→∀c,o.op≠.defer c:=fun e k=>by rw [e];exact k
 unfold Ym at hr
 split at hr
 ·exact .pure hr (fun S2=>vj ho) (nd ho (fun c e=>by cases e))
 ·exact .pure hr (fun S2=>xc ho) (nd ho (fun c e=>by cases e))
 ·exact Db ho hr
 ·exact H2 ho hr
 ·exact H3 hE ho hr
 ·exact K_ ho hr
 ·exact MI hE ho hr
 ·exact G9 ho hr
 ·exact HV hE ho hr
 ·exact Mn hE ho hr
 ·exact L2 hE ho hr
 ·exact LX hE ho hr
 ·exact Lc hE ho hr
 ·exact Ir hE ho hr
 ·exact Ig ho hr
 ·exact Ik hE ho hr
 ·exact Ih hE ho hr
 ·exact LP hE ho uT hr
 ·exact Gp hE ho hr
 ·exact Hg ho hr
 ·exact Hf ho hr
 ·exact Hh hE ho hr
 ·exact vu hE Dx (.inl ⟨rfl,ho⟩) hr
 ·exact vu hE Dx (.inr ⟨rfl,ho⟩) hr
 ·rename_i c
  obtain ⟨cal,xs,ts⟩:=c
  simp only at hr
  split at hr
  ·exact E8 hx ho hr
  ·exact Ij hE ho hr
  ·cases hr
 ·cases hr
end
end
section
open Go.RowKit
def Fp.cat (T U:Fp):Fp:=⟨T.all || U.all,T.rs++U.rs,T.w || U.w,T.ws++U.ws⟩
theorem iy (T U:Fp) (i:Nat):touch (T.cat U) i=(touch T i || touch U i):=by
 unfold touch Fp.cat
 simp only [List.any_append]
 cases T.all<;>cases U.all<;>cases T.rs.any (Nat.beq (res i))<;>cases U.rs.any (Nat.beq (res i))<;>rfl
theorem pZ {T U:Fp} {i:Nat} (h:wt (T.cat U) i=false):wt T i=false∧wt U i=false:=by
 have h:((T.w || U.w) && (T.ws++U.ws).any (Nat.beq (res i)))=false:=h
 show (T.w && T.ws.any (Nat.beq (res i)))=false∧(U.w && U.ws.any (Nat.beq (res i)))=false
 rw [List.any_append] at h
 generalize T.ws.any (Nat.beq (res i))=a at h ⊢
 generalize U.ws.any (Nat.beq (res i))=b at h ⊢
 generalize T.w=c at h ⊢
 generalize U.w=d at h ⊢
 revert h
 cases a<;>cases b<;>cases c<;>cases d<;>decide
theorem Fp.iE (T U V:Fp):(T.cat U).cat V=T.cat (U.cat V):=by
 unfold Fp.cat
 simp [Bool.or_assoc]
theorem Fp.oQ (T:Fp):Fp.no.cat T=T:=by cases T;rfl
theorem Fp.o7 (T:Fp):T.cat .no=T:=by cases T;simp [Fp.cat,Fp.no]
structure mI (h h':H) (T:Fp):Prop where
 out:∀i,touch T i=false→(hp h').ob i=(hp h).ob i∧((hp h').fr i↔(hp h).fr i)
 rd:∀i,wt T i=false→(hp h').ob i=(hp h).ob i∧((hp h').fr i↔(hp h).fr i)
theorem mI.refl (h:H):mI h h .no:=⟨fun _ _=>⟨rfl,Iff.rfl⟩,fun _ _=>⟨rfl,Iff.rfl⟩⟩
theorem mI.trans {h h1 h2:H} {T U:Fp} (a:mI h h1 T) (b:mI h1 h2 U):mI h h2 (T.cat U) where
 out:=fun i hi=>by
  rw [iy,Bool.or_eq_false_iff] at hi
  have e1:=a.out i hi.1
  have e2:=b.out i hi.2
  exact ⟨e2.1.trans e1.1,e2.2.trans e1.2⟩
 rd:=fun i hi=>by
  obtain ⟨h1,h2⟩:=pZ hi
  have e1:=a.rd i h1
  have e2:=b.rd i h2
  exact ⟨e2.1.trans e1.1,e2.2.trans e1.2⟩
theorem Agree.left {T U:Fp} {S S2:Hp} (h:Agree (T.cat U) S S2):Agree T S S2:=fun i hi=>h i (by rw [iy,hi];rfl)
theorem Agree.right {h h1:H} {T U:Fp} {S2:Hp} (f:mI h h1 T) (k:Agree (T.cat U) (hp h) S2):Agree U (hp h1) (ig T (hp h1) S2):=fun i hi=>by
 show (if touch T i=true then (hp h1).ob i else S2.ob i)=(hp h1).ob i∧((if touch T i=true then (hp h1).fr i else S2.fr i)↔(hp h1).fr i)
 cases ht:touch T i with
 | true=>exact ⟨if_pos rfl,by rw [if_pos rfl]⟩
 | false=>
  have e:=f.out i ht
  have k:=k i (by rw [iy,hi];simp)
  rw [if_neg (by simp),if_neg (by simp)]
  exact ⟨k.1.trans e.1.symm,k.2.trans e.2.symm⟩
theorem fE {h1 h2:H} {T U:Fp} {S2:Hp} (f:mI h1 h2 U):ig U (hp h2) (ig T (hp h1) S2)=ig (T.cat U) (hp h2) S2:=by
 refine Hp.ext' (fun i=>?_) (fun i=>?_)
 ·show (if touch U i=true then (hp h2).ob i else (if touch T i=true then (hp h1).ob i else S2.ob i))=(if touch (T.cat U) i=true then (hp h2).ob i else S2.ob i)
  rw [iy]
  cases hu:touch U i with
  | true=>simp
  | false=>
   cases ht:touch T i with
   | true=>simp [(f.out i hu).1]
   | false=>simp
 ·show (if touch U i=true then (hp h2).fr i else (if touch T i=true then (hp h1).fr i else S2.fr i))↔(if touch (T.cat U) i=true then (hp h2).fr i else S2.fr i)
  rw [iy]
  cases hu:touch U i with
  | true=>simp
  | false=>
   cases ht:touch T i with
   | true=>simp [(f.out i hu).2]
   | false=>simp
theorem pR {h h':H} {T:Fp} (f:mI h h' T):ig T (hp h') (hp h)=hp h':=Hp.ext' (fun i=>by
 show (if touch T i=true then _ else _)=_
 split
 ·rfl
 ·rename_i hi;exact (f.out i (by simpa using hi)).1.symm) (fun i=>by
 show (if touch T i=true then _ else _)↔_
 split
 ·exact Iff.rfl
 ·rename_i hi;exact (f.out i (by simpa using hi)).2.symm)
theorem oN (S S2:Hp):ig .no S S2=S2:=Hp.ext' (fun i=>rfl) (fun i=>Iff.rfl)
def eX (n:Nat) (F:Tr A) (ds:List Nat) (S:Hp):St:=⟨aZ F.get,n,ds,S⟩
def yF (n:Nat) (F:Tr A):Operand→A
 | .tmp i=>bif Nat.blt i n then aZ F.get i else .cD
 | .const v=>.v v
 | .global _=>.cD
 | .func f=>.fn f [] []
theorem xi {a b:Nat} (h:a<b):Nat.blt a b=true:=by simpa using h
theorem tB {a b:Nat} (h:¬a<b):Nat.blt a b=false:=by
 cases hx:Nat.blt a b with
 | false=>rfl
 | true=>exact absurd (ba hx) h
theorem oO (n:Nat) (F:Tr A) (ds:List Nat) (S:Hp):yF n F=(eX n F ds S).uF 0:=by
 funext x
 cases x with
 | tmp i=>
  show (bif Nat.blt i n then aZ F.get i else .cD)=(if i<n then aZ F.get i else .cD)
  by_cases h:i<n
  ·rw [if_pos h,xi h];rfl
  ·rw [if_neg h,tB h];rfl
 | _=>rfl
def fcV {β:Type} (v:Value) (k:Value→β):β:=match v with
 | .int a n=>k (.int a n)
 | .bool b=>k (.bool b)
 | v=>k v
theorem Mu {β:Type} (v:Value) (k:Value→β):fcV v k=k v:=by unfold fcV;split<;>rfl
def Xd {β:Type} (p:A) (k:A→β):β:=match p with
 | .v x=>fcV x (fun x=>k (.v x))
 | .ptr o off=>k (.ptr o off)
 | .tp x π=>k (.tp x π)
 | .tw x z=>k (.tw x z)
 | .tl t f l=>k (.tl t f l)
 | .op r o=>k (.op r o)
 | p=>k p
theorem EH {β:Type} (p:A) (k:A→β):Xd p k=k p:=by unfold Xd;split<;>first | exact Mu _ _ | rfl
def Mv {β:Type}:List A→(List A→β)→β
 | [],k=>k []
 | c::cs,k=>Xd c (fun c=>Mv cs (fun cs=>k (c::cs)))
theorem q8 {β:Type}:∀(l:List A) (k:List A→β),Mv l k=k l
 | [],_=>rfl
 | c::cs,k=>by unfold Mv;rw [EH];exact q8 cs _
def NI {β:Type} (p:A) (k:A→β):β:=match p with
 | .agg cs=>Mv cs (fun cs=>k (.agg cs))
 | .iM cs=>Mv cs (fun cs=>k (.iM cs))
 | .fn f fi ca=>Mv fi (fun fi=>Mv ca (fun ca=>k (.fn f fi ca)))
 | p=>Xd p k
theorem xM {β:Type} (p:A) (k:A→β):NI p k=k p:=by
 unfold NI
 split
 ·exact q8 _ _
 ·exact q8 _ _
 ·rw [q8,q8]
 ·exact EH _ _
def tg {β:Type} (F:Tr A) (d:Option Nat) (p:A) (k:Tr A→Option β):Option β:=match d with
 | none=>k F
 | some d=>NI p (fun p=>eP F d (some p) k)
def Kp (l:List Nat) (F F':Tr A):Prop:=∀i,i∉l→aZ F'.get i=aZ F.get i
theorem Kp.refl (l:List Nat) (F:Tr A):Kp l F F:=fun _ _=>rfl
theorem Kp.trans {l k m:List Nat} {F F1 F2:Tr A} (a:Kp l F F1) (b:Kp k F1 F2) (hl:∀i∈l,i∈m) (hk:∀i∈k,i∈m):Kp m F F2:=fun i hi=>(b i (fun h=>hi (hk i h))).trans (a i (fun h=>hi (hl i h)))
theorem Kp.mono {l m:List Nat} {F F1:Tr A} (a:Kp l F F1) (hl:∀i∈l,i∈m):Kp m F F1:=fun i hi=>a i (fun h=>hi (hl i h))
theorem Kp.of {l:List Nat} {n:Nat} {F F':Tr A} (h:∀ds S,eX n F' ds S=eX n F ds S):Kp l F F':=fun i _=>congrFun (congrArg St.t (h [] ⟨fun _=>none,fun _=>False⟩)) i
theorem pQ {β:Type} {F:Tr A} {d:Option Nat} {p:A} {k:Tr A→Option β} {r:β} (h:tg F d p k=some r):∃F',k F'=some r∧Kp d.toList F F'∧∀(n:Nat) (ds:List Nat) (S S':Hp),((eX n F ds S).put d p).to S'=eX n F' ds S':=by
 cases d with
 | none=>exact ⟨F,h,.refl _ F,fun n ds S S'=>rfl⟩
 | some d=>
  have h:NI p (fun p=>eP F d (some p) k)=some r:=h
  rw [xM] at h
  obtain ⟨_,F',k1,k2⟩:=bm h
  refine ⟨F',k1,fun i hi=>by
   simp only [aZ,k2]
   rw [if_neg (fun e=>hi (by rw [e];exact .head _))],fun n ds S S'=>?_⟩
  have e:(fun i=>if i=d then p else aZ F.get i)=aZ F'.get:=by
   funext i
   simp only [aZ,k2]
   by_cases hi:i=d
   ·rw [if_pos hi,if_pos hi]
   ·rw [if_neg hi,if_neg hi]
  simp only [St.put,St.to,eX,e]
def HP {β:Type} (l0:List Oper) (n:Nat) (F:Tr A) (j:Nat) (want:Bool) (k:Tr A→Bool→Option β):Option β:=match (l0[j]?).bind (·.dst) with
 | some d=>match yF n F (.tmp d) with
  | .v (.bool b)=>br b (eP F d (some (.v (.bool true))) (fun F'=>k F' want)) (eP F d (some (.v (.bool false))) (fun F'=>k F' (!want)))
  | .un=>k F false
  | _=>none
 | none=>none
theorem yE {n:Nat} {F:Tr A} {d:Nat} {p:A} (h:yF n F (.tmp d)=p) (hp:p≠.cD):aZ F.get d=p:=by
 have h:(bif Nat.blt d n then aZ F.get d else .cD)=p:=h
 cases hb:Nat.blt d n with
 | true=>rw [hb] at h;exact h
 | false=>rw [hb] at h;exact absurd h.symm hp
theorem y7 {β:Type} {l0:List Oper} {n:Nat} {F:Tr A} {j:Nat} {want:Bool} {k:Tr A→Bool→Option β} {r:β} (h:HP l0 n F j want k=some r):∃F' b,k F' b=some r∧(∀ds S,eX n F' ds S=eX n F ds S)∧∀ds S,lU l0.toArray (eX n F ds S) j want=some b:=by
 unfold HP at h
 split at h
 ·rename_i d hd
  have gv:∀(b:Bool) (ds:List Nat) (S:Hp),((match yF n F (.tmp d) with | .v (.bool b)=>some (b == want) | .un=>some false | _=>none):Option Bool)=some b→lU l0.toArray (eX n F ds S) j want=some b:=fun b ds S hb=>by
   unfold lU
   rw [List.getElem?_toArray,←oO,hd]
   exact hb
  split at h
  ·rename_i b hb
   have same:∀(F':Tr A) (c:Bool),b=c→F'.get=(fun m=>if m=d then some (.v (.bool c)) else F.get m)→∀ds S,eX n F' ds S=eX n F ds S:=fun F' c hc e ds S=>by
    have:aZ F'.get=aZ F.get:=by
     funext i
     by_cases hi:i=d
     ·subst hi
      rw [yE hb (by intro h;cases h),hc]
      unfold aZ
      rw [e];simp
     ·unfold aZ
      rw [e];simp [hi]
    unfold eX
    rw [this]
   rcases kh h with ⟨rfl,h1⟩ | ⟨rfl,h1⟩
   ·obtain ⟨_,F',k1,k2⟩:=bm h1
    exact ⟨F',want,k1,same F' true rfl k2,fun ds S=>gv _ ds S (by rw [hb];cases want<;>rfl)⟩
   ·obtain ⟨_,F',k1,k2⟩:=bm h1
    exact ⟨F',!want,k1,same F' false rfl k2,fun ds S=>gv _ ds S (by rw [hb];cases want<;>rfl)⟩
  ·rename_i hb
   exact ⟨F,false,h,fun ds S=>rfl,fun ds S=>gv _ ds S (by rw [hb])⟩
  ·cases h
 ·cases h
def G6 (p:A):A:=match p with
 | .op r (some j)=>.tp (.eh r j) []
 | .op _ none=>.v (.pointer none)
 | .os r z (some j)=>.tw (.eh r j) z
 | .os _ _ none=>.e0
 | .om r (some j)=>.mp (.eh r j)
 | .om _ none=>.v (.map none)
 | p=>p
theorem G5 {p:A} {g:G} {v:Value} (h:V g p v):V g (G6 p) v:=by
 unfold G6
 split
 ·cases h with | op _ _ _ _ h1=>exact h1 _ rfl
 ·cases h with | op _ _ _ h0 _=>rw [h0 rfl];exact .v _
 ·cases h with | os _ _ _ _ _ h1=>exact h1 _ rfl
 ·cases h with | os _ _ _ _ h0 _=>exact h0 rfl
 ·cases h with | om _ _ _ _ h1=>exact h1 _ rfl
 ·cases h with | om _ _ _ h0 _=>rw [h0 rfl];exact .v _
 ·exact h
def opn (n:Nat) (F:Tr A) (l:List Nat) (x:Operand):A:=match x with
 | .tmp i=>bif l.any (Nat.beq i) then G6 (yF n F (.tmp i)) else yF n F (.tmp i)
 | x=>yF n F x
theorem LJ {n:Nat} {F:Tr A} {l:List Nat} {x:Operand} {g:G} {v:Value} (h:V g (yF n F x) v):V g (opn n F l x) v:=by
 cases x with
 | tmp i=>
  show V g (bif l.any (Nat.beq i) then G6 (yF n F (.tmp i)) else yF n F (.tmp i)) v
  cases l.any (Nat.beq i) with
  | true=>exact G5 h
  | false=>exact h
 | _=>exact h
def qg {β:Type}:List Nat→Tr A→(Tr A→Option β)→Option β
 | [],F,k=>k F
 | i::l,F,k=>match aZ F.get i with
  | .op r v=>opt v (eP F i (some (.op r none)) (fun F=>qg l F k)) (fun j=>eP F i (some (.op r (some j))) (fun F=>qg l F k))
  | .os r z v=>opt v (eP F i (some (.os r z none)) (fun F=>qg l F k)) (fun j=>eP F i (some (.os r z (some j))) (fun F=>qg l F k))
  | .om r v=>opt v (eP F i (some (.om r none)) (fun F=>qg l F k)) (fun j=>eP F i (some (.om r (some j))) (fun F=>qg l F k))
  | _=>qg l F k
theorem sW {β:Type} {r:β}:∀(l:List Nat) (F:Tr A) (k:Tr A→Option β),qg l F k=some r→∃F',k F'=some r∧aZ F'.get=aZ F.get
 | [],F,k,h=>⟨F,h,rfl⟩
 | i::l,F,k,h=>by
  have same:∀(p:A),aZ F.get i=p→eP F i (some p) (fun F=>qg l F k)=some r→∃F',k F'=some r∧aZ F'.get=aZ F.get:=fun p hp h=>by
   obtain ⟨_,F1,k1,k2⟩:=bm h
   obtain ⟨F2,k3,k4⟩:=sW l F1 k k1
   refine ⟨F2,k3,k4.trans ?_⟩
   funext m
   unfold aZ at hp ⊢
   rw [k2]
   by_cases hm:m=i
   ·subst hm;simp only [if_true];exact hp.symm
   ·simp only [if_neg hm]
  unfold qg at h
  split at h
  ·rename_i q v hq
   rcases g_ h with ⟨e,h1⟩ | ⟨j,e,h1⟩
   ·exact same _ (by rw [hq,e]) h1
   ·exact same _ (by rw [hq,e]) h1
  ·rename_i q z v hq
   rcases g_ h with ⟨e,h1⟩ | ⟨j,e,h1⟩
   ·exact same _ (by rw [hq,e]) h1
   ·exact same _ (by rw [hq,e]) h1
  ·rename_i q v hq
   rcases g_ h with ⟨e,h1⟩ | ⟨j,e,h1⟩
   ·exact same _ (by rw [hq,e]) h1
   ·exact same _ (by rw [hq,e]) h1
  ·exact sW l F k h
def rI (x:Operand):List Nat:=match x with
 | .tmp i=>[i]
 | _=>[]
def Q4 (op:Op):List Nat:=match op with
 | .fieldAddr _ x _=>rI x
 | .indexAddr _ x _=>rI x
 | .load _ x=>rI x
 | .store _ x _=>rI x
 | .slice _ x _ _ _=>rI x
 | .lookup _ x _ _=>rI x
 | .mapUpdate _ x _ _=>rI x
 | .insert _ x _ _=>rI x
 | .nilCheck x=>rI x
 | .call c=>match c.callee with
  | .builtin _=>c.args.toList.flatMap rI
  | _=>[]
 | _=>[]
section
variable {P:Program} {E:Env} {cx:Cx} {n:Nat} {β:Type} {r:β}
def LK (E:Env) (cx:Cx) (n:Nat) (op:Op) (F:Tr A) (h:H) (K:Tr A→A→H→Fp→Option β):Option β:=
 qg (Q4 op) F (fun F'=>Ym E cx op (opn n F' (Q4 op)) h (fun pv h' T=>K F' pv h' T))
theorem Dl (hE:bR P E) (hx:kO P cx) {o:Oper} {F:Tr A} {h:H} {K:Tr A→A→H→Fp→Option β} (hr:LK E cx n o.op F h K=some r) :
  ∃F',(∀ds S,eX n F' ds S=eX n F ds S)∧∃pv h' T,K F' pv h' T=some r∧Step P o (yF n F') h h' T pv:=by
 obtain ⟨F',h1,h2⟩:=sW _ _ _ hr
 obtain ⟨pv,h',T,k1,k2⟩:=LM hE hx h1
 refine ⟨F',fun ds S=>by unfold eX;rw [h2],pv,h',T,k1,k2.out,k2.rd,fun S2 hA r g w a next Q hI hv=>k2.ok S2 hA r g w a next Q hI (fun x hx=>LJ (hv x hx))⟩
def pL (l:List Oper):List Nat:=l.flatMap fun o=>o.dst.toList
def u9 (E:Env) (cx:Cx) (n:Nat) (l0:List Oper):List Oper→Tr A→H→Fp→(Tr A→H→Fp→Option β)→Option β
 | [],F,h,U,K=>K F h U
 | o::l,F,h,U,K=>match o.guard with
  | none=>LK E cx n o.op F h (fun F pv h' T=>tg F o.dst pv (fun F'=>u9 E cx n l0 l F' h' (U.cat T) K))
  | some (j,want)=>HP l0 n F j want (fun F b=>bif b then LK E cx n o.op F h (fun F pv h' T=>tg F o.dst pv (fun F'=>u9 E cx n l0 l F' h' (U.cat T) K)) else tg F o.dst .un (fun F'=>u9 E cx n l0 l F' h U K))
def FC (F:Tr A) (h:H) (F':Tr A) (h':H) (n:Nat) (T:Fp) (W:(Exit→St→Prop)→St→Prop) (e:Exit) (ds iR:List Nat):Prop:=
 ∀S2,Agree T (hp h) S2→∀Q:Exit→St→Prop,Q e (eX n F' iR (ig T (hp h') S2))→W Q (eX n F ds S2)
theorem s7 (hE:bR P E) (hx:kO P cx) {l0:List Oper}:∀(l:List Oper) (F:Tr A) (h:H) (U:Fp) (K:Tr A→H→Fp→Option β),u9 E cx n l0 l F h U K=some r →
  ∃F' h' T,K F' h' (U.cat T)=some r∧Kp (pL l) F F'∧mI h h' T∧∀ro S0 g0 w0 ds,FC F h F' h' n T (fun Q st=>CZ P ro S0 g0 w0 l0.toArray Q l st) .normal ds ds
 | [],F,h,U,K,hr=>⟨F,h,.no,by rw [Fp.o7];exact hr,.refl _ F,.refl h,fun ro S0 g0 w0 ds S2 hA Q hq=>by
   rw [oN] at hq;exact GC hq⟩
 | o::l,F,h,U,K,hr=>by
  have yes:∀(F:Tr A),LK E cx n o.op F h (fun F pv h' T=>tg F o.dst pv (fun F'=>u9 E cx n l0 l F' h' (U.cat T) K))=some r →
    (∀ds S,o.guard=none∨∃j want,o.guard=some (j,want)∧lU l0.toArray (eX n F ds S) j want=some true) →
    ∃F' h' T,K F' h' (U.cat T)=some r∧Kp (pL (o::l)) F F'∧mI h h' T∧∀ro S0 g0 w0 ds,FC F h F' h' n T (fun Q st=>CZ P ro S0 g0 w0 l0.toArray Q (o::l) st) .normal ds ds:=fun F hr hg=>by
   obtain ⟨F0,e0,pv,h1,T1,k1,k2⟩:=Dl hE hx hr
   obtain ⟨F1,k3,LZ,k4⟩:=pQ k1
   obtain ⟨F2,h2,T2,k5,Yy,k6,k7⟩:=s7 hE hx l F1 h1 (U.cat T1) K k3
   have f1:mI h h1 T1:=⟨k2.out,k2.rd⟩
   have hg:∀ds S,o.guard=none∨∃j want,o.guard=some (j,want)∧lU l0.toArray (eX n F0 ds S) j want=some true:=fun ds S=>by rw [e0];exact hg ds S
   refine ⟨F2,h2,T1.cat T2,by rw [←Fp.iE];exact k5,(Kp.of (l:=[]) e0).trans (m:=pL (o::l)) (LZ.trans Yy (fun i hi=>zQ _ hi) (fun i hi=>zS _ hi)) (fun i hi=>by cases hi) (fun i hi=>hi),f1.trans k6,fun ro S0 g0 w0 ds S2 hA Q hq=>?_⟩
   rw [←e0]
   have rD:BT P o ((eX n F0 ds S2).uF 0) (eX n F0 ds S2).S (ig T1 (hp h1) S2) pv:=by rw [←oO];exact k2.ok S2 hA.left
   have Ky:CZ P ro S0 g0 w0 l0.toArray Q l (((eX n F0 ds S2).put o.dst pv).to (ig T1 (hp h1) S2)):=by
    rw [k4]
    refine k7 ro S0 g0 w0 ds _ (Agree.right f1 hA) Q ?_
    rw [fE k6];exact hq
   rcases hg ds S2 with hg | ⟨j,want,hg,hv⟩
   ·exact vb 0 hg rD Ky
   ·exact s_ 0 hg hv rD Ky
  unfold u9 at hr
  split at hr
  ·rename_i hg
   exact yes F hr (fun _ _=>.inl hg)
  ·rename_i j want hg
   obtain ⟨F1,b,k1,k2,k3⟩:=y7 hr
   cases b with
   | true=>
    simp only [cond_true] at k1
    obtain ⟨F',h',T,q1,qp,q2,q3⟩:=yes F1 k1 (fun ds S=>.inr ⟨j,want,hg,by rw [k2];exact k3 ds S⟩)
    refine ⟨F',h',T,q1,(Kp.of (l:=[]) k2).trans qp (fun i hi=>by cases hi) (fun i hi=>hi),q2,fun ro S0 g0 w0 ds S2 hA Q hq=>?_⟩
    rw [←k2]
    exact q3 ro S0 g0 w0 ds S2 hA Q hq
   | false=>
    simp only [cond_false] at k1
    obtain ⟨F2,k4,LZ,k5⟩:=pQ k1
    obtain ⟨F',h',T,q1,qp,q2,q3⟩:=s7 hE hx l F2 h U K k4
    refine ⟨F',h',T,q1,(Kp.of (l:=[]) k2).trans (m:=pL (o::l)) (LZ.trans qp (fun i hi=>zQ _ hi) (fun i hi=>zS _ hi)) (fun i hi=>by cases hi) (fun i hi=>hi),q2,fun ro S0 g0 w0 ds S2 hA Q hq=>?_⟩
    have:=q3 ro S0 g0 w0 ds S2 hA Q hq
    rw [←k5 n ds S2 S2] at this
    rw [←k2]
    refine u_ hg (by rw [k2];exact k3 ds S2) ?_
    rw [←tb (st:=eX n F1 ds S2)]
    exact this
end
end
section
open Go.RowKit
def iq (kp:Nat→Bool) (i:Nat):Bool:=!(Nat.blt i 16777216) && kp (lE i)
def G.kE (kp:Nat→Bool) (g:G):G:=⟨fun i=>if iq kp i=true then g.bl i else none,g.mem,g.lp⟩
theorem tH (kp:Nat→Bool) (g:G):Le (g.kE kp) g:=⟨fun o p h=>(by
 have h:(if iq kp o=true then g.bl o else none)=some p:=h
 split at h
 ·exact h
 ·cases h),fun _ _ _ h=>h,fun _ _ h=>h⟩
theorem jl {kp:Nat→Bool} {g:G} {i:Nat} (h:iq kp i=true):(g.kE kp).bl i=g.bl i:=if_pos h
theorem DN {kp:Nat→Bool} {g:G} {i:Nat} (h:iq kp i=false):(g.kE kp).bl i=none:=if_neg (by rw [h];simp)
def VK (kp:Nat→Bool) (c:A):Prop:=∀g v,V g c v→V (g.kE kp) c v
def NO (kp:Nat→Bool):Ob→Prop
 | .cells cs=>∀c∈cs,VK kp c
 | .cN (.map es)=>∀e∈es,VK kp e.1∧VK kp e.2
 | .cN _=>False
def G.join (kp:Nat→Bool) (g0 g:G):G:=⟨fun i=>if iq kp i=true then g0.bl i else g.bl i,g0.mem,g0.lp⟩
theorem Bj (kp:Nat→Bool) (g0 g:G):(G.join kp g0 g).kE kp=g0.kE kp:=by
 unfold G.join G.kE
 congr 1
 funext i
 by_cases h:iq kp i=true
 ·simp only [if_pos h]
 ·simp only [if_neg h]
theorem VK.join {kp:Nat→Bool} {c:A} (h:VK kp c) {g0 g:G} {v:Value} (hv:V g0 c v):V (G.join kp g0 g) c v:=by
 have:=h g0 v hv
 rw [←Bj kp g0 g] at this
 exact this.mono (tH kp _)
def Hp.join (kp:Nat→Bool) (S0 S:Hp):Hp:=⟨fun i=>if iq kp i=true then S0.ob i else S.ob i,fun i=>if iq kp i=true then S0.fr i else S.fr i⟩
theorem mb.conv {g g':G} {w w':World} {b t:Nat} {cs:List A} (h:mb g w b t cs) (hw:w'.heap[b]?=w.heap[b]?) (hc:∀c∈cs,∀v,V g c v→V g' c v):mb g' w' b t cs:=by
 obtain ⟨cur,ty,k2,oC,k3⟩:=h
 exact ⟨cur,ty,hw.trans k2,oC,k3.1,fun j c x e1 e2=>⟨hc c (zG e1) _ (k3.2 j c x e1 e2).1,(k3.2 j c x e1 e2).2⟩⟩
theorem Ew {kp:Nat→Bool} {g:G} {S S0:Hp} {w:World} (hI:Inv g S w) (h0:∀i,iq kp i=false→S0.ob i=none) (h1:∀i,iq kp i=true→S.ob i=S0.ob i∧(S.fr i↔S0.fr i)) (hk:∀i x,S0.ob i=some x→NO kp x):Inv (g.kE kp) S0 w:=by
 have kn:∀{i x},S0.ob i=some x→iq kp i=true∧S.ob i=some x:=fun {i x} h=>by
  cases gU:iq kp i with
  | false=>rw [h0 i gU] at h;cases h
  | true=>exact ⟨rfl,(h1 i gU).1.trans h⟩
 have sub:=(tH kp g).bl
 refine ⟨fun o cs h=>?_,fun o x h=>?_,fun o h=>?_,fun o b s h=>hI.lt o b s (sub _ _ h),fun o o' x x' b s s' e1 e2 e3 e4=>hI.inj o o' x x' b s s' (kn e1).2 (kn e2).2 (sub _ _ e3) (sub _ _ e4),hI.mem,fun o b s i x e1 e2=>hI.kD o b s i x (kn e1).2 (sub _ _ e2),hI.lp⟩
 ·obtain ⟨q1,q2⟩:=kn h
  rw [jl q1]
  rcases hI.cells o cs q2 with ⟨k1,k2⟩ | ⟨b,t,k1,k2⟩
  ·exact .inl ⟨k1,k2⟩
  ·exact .inr ⟨b,t,k1,k2.conv rfl (fun c hc v hv=>hk o _ h c hc g v hv)⟩
 ·obtain ⟨q1,q2⟩:=kn h
  obtain ⟨b,s,ob,k1,k2,k3⟩:=hI.cN o x q2
  refine ⟨b,s,ob,by rw [jl q1];exact k1,k2,?_⟩
  have hx:=hk o _ h
  cases x with
  | map es=>
   obtain ⟨jb,clock,e1,e2,e3⟩:=k3
   exact ⟨jb,clock,e1,e2,fun i e q a1 a2=>let hq:=hx q (zG a2);⟨hq.1 g _ (e3 i e q a1 a2).1,hq.2 g _ (e3 i e q a1 a2).2⟩⟩
  | _=>exact hx.elim
 ·cases gU:iq kp o with
  | false=>exact DN gU
  | true=>rw [jl gU];exact hI.fresh o ((h1 o gU).2.2 h)
theorem Bs {kp:Nat→Bool} {g Eu:G} {S S0 wM:Hp} {w w':World} (hI:Inv g S w) (h0:∀i,iq kp i=false→S0.ob i=none) (h1:∀i,iq kp i=true→S.ob i=S0.ob i∧(S.fr i↔S0.fr i))
  (hk:∀i x,iq kp i=true→wM.ob i=some x→NO kp x) (Ga:Inv Eu wM w') (x0:Ext S0 (g.kE kp) w wM Eu w') :
  Inv (G.join kp Eu g) (Hp.join kp wM S) w'∧Ext S g w (Hp.join kp wM S) (G.join kp Eu g) w':=by
 have ow:∀{k},lA S0 (g.kE kp) k→∃o s x,iq kp o=true∧S.ob o=some x∧g.bl o=some (some k,s):=fun {k} ⟨o,s,x,e1,e2⟩=>by
  cases gU:iq kp o with
  | false=>rw [h0 o gU] at e1;cases e1
  | true=>exact ⟨o,s,x,gU,(h1 o gU).1.trans e1,(tH kp g).bl _ _ e2⟩
 have LI:∀{k},lA S0 (g.kE kp) k→lA S g k:=fun {k} h=>by
  obtain ⟨o,s,x,_,e1,e2⟩:=ow h
  exact ⟨o,s,x,e1,e2⟩
 have other:∀{o x b s},iq kp o=false→S.ob o=some x→g.bl o=some (some b,s)→¬lA S0 (g.kE kp) b:=fun {o x b s} hn e1 e2 h=>by
  obtain ⟨o',s',x',k1,k2,k3⟩:=ow h
  have:=hI.inj o o' x x' b s s' e1 k2 e2 k3
  rw [this,k1] at hn;cases hn
 have ji:∀{i},iq kp i=true→(G.join kp Eu g).bl i=Eu.bl i∧(Hp.join kp wM S).ob i=wM.ob i∧((Hp.join kp wM S).fr i↔wM.fr i):=fun {i} h=>⟨if_pos h,if_pos h,by show (if iq kp i=true then _ else _)↔_;rw [if_pos h]⟩
 have jo:∀{i},iq kp i=false→(G.join kp Eu g).bl i=g.bl i∧(Hp.join kp wM S).ob i=S.ob i∧((Hp.join kp wM S).fr i↔S.fr i):=fun {i} h=>by
  have h':¬iq kp i=true:=by rw [h];simp
  exact ⟨if_neg h',if_neg h',by show (if iq kp i=true then _ else _)↔_;rw [if_neg h']⟩
 have le:Le g (G.join kp Eu g):=⟨fun o p e=>(by
  cases gU:iq kp o with
  | true=>rw [(ji gU).1];exact x0.le.bl o p (by rw [jl gU];exact e)
  | false=>rw [(jo gU).1];exact e),x0.le.mem,x0.le.lp⟩
 have heap:∀{o x b s},iq kp o=false→S.ob o=some x→g.bl o=some (some b,s)→w'.heap[b]?=w.heap[b]?:=fun {o x b s} hn e1 e2=>x0.frame b (hI.lt o b s e2) (other hn e1 e2)
 refine ⟨⟨fun o cs h=>?_,fun o x h=>?_,fun o h=>?_,fun o b s h=>?_,fun o o' x x' b s s' e1 e2 e3 e4=>?_,Ga.mem,fun o b s i x e1 e2=>?_,Ga.lp⟩,⟨le,x0.os,x0.tape,x0.output,x0.size,fun k W5 xz=>x0.frame k W5 (fun h=>xz (LI h)),fun k h=>?_,fun o p h=>?_,fun o h=>?_,fun b i x h=>?_,fun b l h=>x0.lpo b l h⟩⟩
 ·cases gU:iq kp o with
  | true=>
   rw [(ji gU).2.1] at h
   rw [(ji gU).1]
   rcases Ga.cells o cs h with ⟨k1,k2⟩ | ⟨b,t,k1,k2⟩
   ·exact .inl ⟨k1,k2⟩
   ·exact .inr ⟨b,t,k1,k2.conv rfl (fun c hc v hv=>(hk o _ gU h c hc).join hv)⟩
  | false=>
   rw [(jo gU).2.1] at h
   rw [(jo gU).1]
   rcases hI.cells o cs h with ⟨k1,k2⟩ | ⟨b,t,k1,k2⟩
   ·exact .inl ⟨k1,k2⟩
   ·exact .inr ⟨b,t,k1,k2.conv (heap gU h k1) (fun c hc v hv=>hv.mono le)⟩
 ·cases gU:iq kp o with
  | true=>
   rw [(ji gU).2.1] at h
   rw [(ji gU).1]
   obtain ⟨b,s,ob,k1,k2,k3⟩:=Ga.cN o x h
   refine ⟨b,s,ob,k1,k2,?_⟩
   have hx:=hk o _ gU h
   cases x with
   | map es=>
    obtain ⟨jb,clock,e1,e2,e3⟩:=k3
    exact ⟨jb,clock,e1,e2,fun i e q a1 a2=>let hq:=hx q (zG a2);⟨hq.1.join (e3 i e q a1 a2).1,hq.2.join (e3 i e q a1 a2).2⟩⟩
   | _=>exact hx.elim
  | false=>
   rw [(jo gU).2.1] at h
   rw [(jo gU).1]
   obtain ⟨b,s,ob,k1,k2,k3⟩:=hI.cN o x h
   exact ⟨b,s,ob,k1,(heap gU h k1).trans k2,k3.mono le⟩
 ·cases gU:iq kp o with
  | true=>rw [(ji gU).1];exact Ga.fresh o ((ji gU).2.2.1 h)
  | false=>rw [(jo gU).1];exact hI.fresh o ((jo gU).2.2.1 h)
 ·cases gU:iq kp o with
  | true=>rw [(ji gU).1] at h;exact Ga.lt o b s h
  | false=>rw [(jo gU).1] at h;exact Nat.lt_of_lt_of_le (hI.lt o b s h) x0.size
 ·have mixed:∀{o o' x x' b s s'},iq kp o=true→iq kp o'=false→wM.ob o=some x→S.ob o'=some x'→Eu.bl o=some (some b,s)→g.bl o'=some (some b,s')→False:=fun {o o' x x' b s s'} h1 h2 e1 e2 e3 e4=>by
   rcases x0.own b ⟨o,s,x,e1,e3⟩ with h | h
   ·exact other h2 e2 e4 h
   ·have:=hI.lt o' b s' e4;omega
  cases gU:iq kp o with
  | true=>
   rw [(ji gU).2.1] at e1
   rw [(ji gU).1] at e3
   cases qS:iq kp o' with
   | true=>
    rw [(ji qS).2.1] at e2
    rw [(ji qS).1] at e4
    exact Ga.inj o o' x x' b s s' e1 e2 e3 e4
   | false=>
    rw [(jo qS).2.1] at e2
    rw [(jo qS).1] at e4
    exact (mixed gU qS e1 e2 e3 e4).elim
  | false=>
   rw [(jo gU).2.1] at e1
   rw [(jo gU).1] at e3
   cases qS:iq kp o' with
   | true=>
    rw [(ji qS).2.1] at e2
    rw [(ji qS).1] at e4
    exact (mixed qS gU e2 e1 e4 e3).elim
   | false=>
    rw [(jo qS).2.1] at e2
    rw [(jo qS).1] at e4
    exact hI.inj o o' x x' b s s' e1 e2 e3 e4
 ·cases gU:iq kp o with
  | true=>
   rw [(ji gU).2.1] at e1
   rw [(ji gU).1] at e2
   exact Ga.kD o b s i x e1 e2
  | false=>
   rw [(jo gU).2.1] at e1
   rw [(jo gU).1] at e2
   show Eu.mem b i=none
   cases hm:Eu.mem b i with
   | none=>rfl
   | some y=>
    rcases x0.qI b i y hm with h | h | h
    ·have:=hI.kD o b s i x e1 e2
     have h:g.mem b i=some y:=h
     rw [this] at h;cases h
    ·exact absurd h (other gU e1 e2)
    ·have:=hI.lt o b s e2;omega
 ·obtain ⟨o,s,x,e1,e2⟩:=h
  cases gU:iq kp o with
  | true=>
   rw [(ji gU).2.1] at e1
   rw [(ji gU).1] at e2
   rcases x0.own k ⟨o,s,x,e1,e2⟩ with h | h
   ·exact .inl (LI h)
   ·exact .inr h
  | false=>
   rw [(jo gU).2.1] at e1
   rw [(jo gU).1] at e2
   exact .inl ⟨o,s,x,e1,e2⟩
 ·cases gU:iq kp o with
  | true=>
   rw [(ji gU).1] at h
   rcases x0.H8 o p h with h | ⟨h,k⟩
   ·rw [jl gU] at h;exact .inl h
   ·rw [jl gU] at h;exact .inr ⟨h,(h1 o gU).2.2 k⟩
  | false=>rw [(jo gU).1] at h;exact .inl h
 ·cases gU:iq kp o with
  | true=>exact (h1 o gU).2.2 (x0.fr o ((ji gU).2.2.1 h))
  | false=>exact (jo gU).2.2.1 h
 ·rcases x0.qI b i x h with h | h | h
  ·exact .inl h
  ·exact .inr (.inl (LI h))
  ·exact .inr (.inr h)
end
section
open Go.RowKit
theorem PC.frame {P:Program} {f:FuncId} {kp:Nat→Bool} {aa:List A} {S S0 wM:Hp} {r:A} (h0:∀i,iq kp i=false→S0.ob i=none) (h1:∀i,iq kp i=true→S.ob i=S0.ob i∧(S.fr i↔S0.fr i)) (hk:∀i x,S0.ob i=some x→NO kp x)
  (F7:∀i x,iq kp i=true→wM.ob i=some x→NO kp x) (ha:∀a∈aa,VK kp a) (hr:VK kp r) (h:PC P f aa S0 wM r):PC P f aa S (Hp.join kp wM S) r:=fun g w vs hI hl hv=>by
 refine (h (g.kE kp) w vs (Ew hI h0 h1 hk) hl (fun i p v e1 e2=>ha p (zG e1) g v (hv i p v e1 e2))).mono ?_
 rintro e w' ⟨v,g',rfl,k1,k2,k3⟩
 obtain ⟨q1,q2⟩:=Bs hI h0 h1 F7 k2 k3
 exact ⟨v,_,rfl,hr.join k1,q1,q2⟩
def oU (kp:Nat→Bool):Ty→Bool
 | .int _=>true
 | .bool=>true
 | .unit=>true
 | .pair a b=>oU kp a && oU kp b
 | .arr _ t=>oU kp t
 | .aI _=>true
 | .ptr r=>Nat.blt r 64 && kp r
 | .db r=>Nat.blt r 64 && kp r
 | .iX r _=>Nat.blt r 64 && kp r
 | .oA r _=>Nat.blt r 64 && kp r
 | .mp r=>Nat.blt r 64 && kp r
theorem tG {kp:Nat→Bool} {r j:Nat} (h:r<64) (hk:kp r=true):iq kp (e_ r j)=true:=by
  have h1:=m4 r j
  have h2:=kT (j:=j) h
  generalize e_ r j=i at h1 h2
  unfold iq
  rw [h2,hk,Bool.and_true]
  cases hx:Nat.blt i 16777216 with
  | false=>rfl
  | true=>
            have:i<16777216:=by simpa using hx
            unfold cE at h1;omega
theorem VK.v {kp:Nat→Bool} (x:Value):VK kp (.v x):=fun g v h=>by cases h;exact .v _
theorem VK.tp {kp:Nat→Bool} {r j:Nat} (h:r<64) (hk:kp r=true):VK kp (.tp (.eh r j) []):=fun g v hv=>by
 cases hv with
 | tp _ _ b s bF hp=>exact .tp _ _ b s (by rw [show (Ref.eh r j).id=e_ r j from rfl,jl (tG h hk)];exact bF) hp
theorem VK.tw {kp:Nat→Bool} {r j z:Nat} (h:r<64) (hk:kp r=true):VK kp (.tw (.eh r j) z):=fun g v hv=>by
 have e:(g.kE kp).bl (Ref.eh r j).id=g.bl (Ref.eh r j).id:=jl (tG h hk)
 cases hv with
 | sa _ _ ad bF=>exact .sa _ _ ad (by rw [e];exact bF)
 | tw _ _ n b cap t bF hn hx hp d hd=>exact .tw _ _ n b cap t (by rw [e];exact bF) hn hx hp d hd
theorem VK.mp {kp:Nat→Bool} {r j:Nat} (h:r<64) (hk:kp r=true):VK kp (.mp (.eh r j)):=fun g v hv=>by
 cases hv with
 | mp _ b s bF=>exact .mp _ b s (by rw [show (Ref.eh r j).id=e_ r j from rfl,jl (tG h hk)];exact bF)
theorem VK.tl {kp:Nat→Bool} {t:Ty} {f:Bool} {l:List t.T}:VK kp (.tl t f l):=fun g v hv=>by
 cases hv with
 | tl _ _ _ _ hd=>exact .tl t f l v hd
theorem vS {α β:Type} {f:α→List β} {p:β→Prop} (h:∀x,∀c∈f x,p c) (l:List α):∀c∈l.flatMap f,p c:=fun c hc=>by
 obtain ⟨x,_,hx⟩:=List.mem_flatMap.1 hc
 exact h x c hx
theorem nb {kp:Nat→Bool}:∀(t:Ty) (x:t.T),oU kp t=true→∀c∈aA t x,VK kp c
 | .int k,x,_,c,hc=>by rcases zF.1 hc with rfl;exact .v _
 | .bool,x,_,c,hc=>by rcases zF.1 hc with rfl;exact .v _
 | .unit,x,_,c,hc=>by cases hc
 | .pair a b,x,h,c,hc=>by
  simp only [oU,zC] at h
  rcases zX.1 hc with hc | hc
  ·exact nb a x.1 h.1 c hc
  ·exact nb b x.2 h.2 c hc
 | .arr n t,l,h,c,hc=>vS (f:=fun i=>aA t (nth t.cF l i)) (fun i c hc=>nb t _ h c hc) _ c hc
 | .aI t,l,_,c,hc=>by rcases zF.1 hc with rfl;exact .tl
 | .ptr r,x,h,c,hc=>by
  simp only [oU,zC] at h
  rcases zF.1 hc with rfl
  intro g v hv
  cases hv with
  | op _ _ _ h0 h1=>exact .op r x v h0 (fun j e=>VK.tp (ba h.1) h.2 g v (h1 j e))
 | .db r,j,h,c,hc=>by
  simp only [oU,zC] at h
  rcases zF.1 hc with rfl
  exact .tp (ba h.1) h.2
 | .iX r z,x,h,c,hc=>by
  simp only [oU,zC] at h
  rcases zF.1 hc with rfl
  intro g v hv
  cases hv with
  | os _ _ _ _ h0 h1=>exact .os r z x v (fun e=>by cases h0 e with | e0 ad=>exact .e0 ad) (fun j e=>VK.tw (ba h.1) h.2 g v (h1 j e))
 | .oA r z,j,h,c,hc=>by
  simp only [oU,zC] at h
  rcases zF.1 hc with rfl
  exact .tw (ba h.1) h.2
 | .mp r,x,h,c,hc=>by
  simp only [oU,zC] at h
  rcases zF.1 hc with rfl
  intro g v hv
  cases hv with
  | om _ _ _ h0 h1=>exact .om r x v h0 (fun j e=>VK.mp (ba h.1) h.2 g v (h1 j e))
theorem VK.agg {kp:Nat→Bool} {cs:List A} (h:∀c∈cs,VK kp c):VK kp (.agg cs):=fun g v hv=>by
 cases hv with
 | agg _ vs hl h1 h2=>exact .agg cs vs hl h1 (fun i c x e1 e2=>h c (zG e1) g x (h2 i c x e1 e2))
theorem VK.iM {kp:Nat→Bool} {cs:List A} (h:∀c∈cs,VK kp c):VK kp (.iM cs):=fun g v hv=>by
 cases hv with
 | iM _ vs hl h2=>exact .iM cs vs hl (fun i c x e1 e2=>h c (zG e1) g x (h2 i c x e1 e2))
theorem VK.cD {kp:Nat→Bool}:VK kp .cD:=fun g v _=>.cD v
theorem VK.pack {kp:Nat→Bool} {a:Bool} {t:Ty} (x:t.T) (h:oU kp t=true):VK kp (bK a t x):=by
 unfold bK
 cases a with
 | true=>exact .agg (nb t x h)
 | false=>
  simp only [cond_false]
  split
  ·rename_i c hc
   exact nb t x h c (by rw [hc];exact .head _)
  ·exact .cD
def RK.oU (kp:Nat→Bool):RK→Bool
 | .box t=>Bm.oU kp t
 | .row t=>Bm.oU kp t
 | .map _ tk _ tv=>Bm.oU kp tk && Bm.oU kp tv
theorem AB {kp:Nat→Bool} {k:RK} {c:k.T} {j:Nat} {x:Ob} (hk:k.oU kp=true) (h:dK k c j=some x):NO kp x:=by
 cases k with
 | box t=>
  have h:(match kG (α:=t.T) c j with | some x=>some (Ob.cells (aA t x)) | none=>none)=some x:=h
  split at h
  ·cases h;exact nb t _ hk
  ·cases h
 | row t=>
  have h:(match kG (α:=Option (List t.T)) c j with | some (some l)=>some (Ob.cells (l.flatMap (aA t))) | _=>none)=some x:=h
  split at h
  ·cases h;exact vS (fun y c hc=>nb t y hk c hc) _
  ·cases h
 | map ka tk va tv=>
  have h:(match kG (α:=List (tk.T×tv.T)) c j with | some es=>some (Ob.cN (.map (g6 ka tk va tv es))) | none=>none)=some x:=h
  simp only [RK.oU,zC] at hk
  split at h
  ·cases h
   intro e he
   obtain ⟨y,_,rfl⟩:=List.mem_map.1 he
   exact ⟨.pack _ hk.1,.pack _ hk.2⟩
  ·cases h
end
section
open Go.RowKit
deriving instance DecidableEq for RK
def w_:List A→A
 | [p]=>p
 | ps=>.iM ps
structure dI where
 ps:List (Bool×Ty)
 rs:List (Bool×Ty)
 rg:List (Nat×RK)
 wg:List (Nat×RK)
def jU:List (Bool×Ty)→Type
 | []=>Unit
 | p::l=>p.2.T×jU l
def l8:(l:List (Bool×Ty))→jU l→List A
 | [],_=>[]
 | p::l,x=>bK p.1 p.2 x.1::l8 l x.2
def pY:List (Nat×RK)→Type
 | []=>Unit
 | p::l=>p.2.T×pY l
def dq:(l:List (Nat×RK))→pY l→List Rg
 | [],_=>[]
 | p::l,x=>⟨p.1,p.2,x.1⟩::dq l x.2
def h0 (rl wl:List (Nat×RK)) (c:pY rl) (d:pY wl):H:=⟨.nil,0,dq wl d++dq rl c,[]⟩
def La:(l:List (Bool×Ty))→List A→Option (jU l)
 | [],[]=>some ()
 | p::l,a::aa=>match kA p.1 p.2 a,La l aa with
  | some x,some y=>some (x,y)
  | _,_=>none
 | _,_=>none
theorem sS:∀(l:List (Bool×Ty)) (aa:List A) (x:jU l),La l aa=some x→aa.length=(l8 l x).length∧∀(i:Nat) (a b:A),aa[i]?=some a→(l8 l x)[i]?=some b→∀g v,V g a v→V g b v
 | [],[],x,_=>⟨rfl,fun i a b h=>by simp at h⟩
 | p::l,a::aa,x,h=>by
  simp only [La] at h
  split at h
  ·rename_i y z h1 h2
   cases h
   obtain ⟨k1,k2⟩:=sS l aa z h2
   refine ⟨congrArg Nat.succ k1,fun i a' b e1 e2=>?_⟩
   cases i with
   | zero=>
    have e1:a=a':=Option.some.inj e1
    have e2:bK p.1 p.2 y=b:=Option.some.inj e2
    subst e1 e2
    exact fun g v hv=>jJ h1 hv
   | succ i=>exact k2 i a' b e1 e2
  ·cases h
 | [],_::_,_,h=>by cases h
 | _::_,[],_,h=>by cases h
def KZ (a b:RK) (c:a.T):Option b.T:=if h:a=b then some (h▸c) else none
def dc (l:List (Nat×RK)) (r:Nat):Bool:=l.any fun p=>Nat.beq p.1 r
def xH:(l:List (Nat×RK))→List Rg→Option (pY l)
 | [],_=>some ()
 | p::l,rg=>match bn rg p.1,xH l rg with
  | some ⟨_,k,c⟩,some y=>match KZ k p.2 c with
   | some x=>some (x,y)
   | none=>none
  | _,_=>none
theorem yv:∀{rg:List Rg} {r:Nat} {x:Rg},bn rg r=some x→x.r=r
 | y::l,r,x,h=>by
  unfold bn at h
  cases hy:Nat.beq y.r r with
  | true=>rw [hy] at h;cases h;exact beq_eq hy
  | false=>rw [hy] at h;exact yv h
theorem dN:∀(l:List (Nat×RK)) (c:pY l) (r:Nat),dc l r=false→bn (dq l c) r=none
 | [],_,_,_=>rfl
 | p::l,c,r,h=>by
  have h:(Nat.beq p.1 r || dc l r)=false:=h
  rw [Bool.or_eq_false_iff] at h
  show (bif Nat.beq p.1 r then _ else _)=_
  rw [h.1]
  exact dN l c.2 r h.2
theorem i_:∀(l:List (Nat×RK)) (c:pY l) (r:Nat),dc l r=true→∃x,bn (dq l c) r=some x
 | p::l,c,r,h=>by
  show ∃x,(bif Nat.beq p.1 r then some (⟨p.1,p.2,c.1⟩:Rg) else bn (dq l c.2) r)=some x
  cases hq:Nat.beq p.1 r with
  | true=>exact ⟨_,rfl⟩
  | false=>
   have h:(Nat.beq p.1 r || dc l r)=true:=h
   rw [hq,Bool.false_or] at h
   exact i_ l c.2 r h
theorem gH:∀(l k:List Rg) (r:Nat),bn (l++k) r=match bn l r with | some x=>some x | none=>bn k r
 | [],k,r=>rfl
 | y::l,k,r=>by
  show (bif Nat.beq y.r r then some y else bn (l++k) r)=match (bif Nat.beq y.r r then some y else bn l r) with | some x=>some x | none=>bn k r
  cases hy:Nat.beq y.r r with
  | true=>rfl
  | false=>exact gH l k r
theorem kH:∀(l:List (Nat×RK)) (rg:List Rg) (c:pY l),xH l rg=some c→∀r,dc l r=true→bn (dq l c) r=bn rg r∧∃x,bn rg r=some x
 | [],_,_,_,_,h=>by cases h
 | p::l,rg,c,hg,r,h=>by
  simp only [xH] at hg
  split at hg
  ·rename_i r' k c' y h1 h2
   split at hg
   ·rename_i x hx
    cases hg
    show (bif Nat.beq p.1 r then some (⟨p.1,p.2,x⟩:Rg) else bn (dq l y) r)=_∧_
    cases hp:Nat.beq p.1 r with
    | true=>
     have e:=beq_eq hp
     subst e
     have hr:=yv h1
     simp only at hr
     subst hr
     unfold KZ at hx
     split at hx
     ·rename_i ek
      obtain ⟨p1,p2⟩:=p
      simp only at ek
      subst ek
      cases hx
      rw [h1]
      exact ⟨rfl,_,rfl⟩
     ·cases hx
    | false=>
     have h:(Nat.beq p.1 r || dc l r)=true:=h
     rw [hp,Bool.false_or] at h
     exact kH l rg y h2 r h
   ·cases hg
  ·cases hg
def VsL (g:G) (aa:List A) (vs:List Value):Prop:=∀(i:Nat) (a:A) (v:Value),aa[i]?=some a→vs[i]?=some v→V g a v
def CvL (h h':H) (T:List Nat) (aa wL:List A):Prop:=wL.length=aa.length∧∃us,hp h'=app us (hp h)∧(∀u∈us,touch (.wr T) u.id=true) ∧
 ∀g S w (vs:List Value),Inv g S w→Agree (.wr T) (hp h) S→aa.length=vs.length→VsL g aa vs→∃g',Inv g' (app us S) w∧Ext S g w (app us S) g' w∧VsL g' wL vs
def EC (a:Bool) (t:Ty) (p:A) (h:H):Option (A×H×List Nat):=bif a then (match p with
 | .agg cs=>match fixC 20 t cs h with
  | some (cs',h',T)=>some (.agg cs',h',T)
  | none=>none
 | _=>none) else bif xp p then none else (match p.cells with
 | some [c]=>match fixC 20 t [c] h with
  | some ([c'],h',T)=>some (c',h',T)
  | _=>none
 | _=>none)
def Bv:List (Bool×Ty)→List A→H→Option (List A×H×List Nat)
 | [],[],h=>some ([],h,[])
 | p::l,a::aa,h=>match EC p.1 p.2 a h with
  | some (a',h1,T1)=>match Bv l aa h1 with
   | some (wL,h2,T2)=>some (a'::wL,h2,T1++T2)
   | none=>none
  | none=>none
 | _,_,_=>none
theorem BL {p c:A} (ha:xp p=false) (h:p.cells=some [c]):c=p:=by
 unfold A.cells at h
 split at h
 ·cases ha
 ·rename_i x
  cases hx:x.oneCell' with
  | true=>rw [hx] at h;simp at h;exact h.symm
  | false=>rw [hx] at h;cases h
 ·cases h
 ·cases h
 ·cases h
 ·simp at h;exact h.symm
theorem ub {a:Bool} {t:Ty} {p p':A} {h h':H} {T:List Nat} (hf:EC a t p h=some (p',h',T)):∃us,hp h'=app us (hp h)∧(∀u∈us,touch (.wr T) u.id=true)∧∀g S w (v:Value),Inv g S w→Agree (.wr T) (hp h) S→V g p v→∃g',Inv g' (app us S) w∧Ext S g w (app us S) g' w∧V g' p' v:=by
 unfold EC at hf
 cases a with
 | true=>
  simp only [cond_true] at hf
  split at hf
  ·rename_i cs
   split at hf
   ·rename_i cs' h1 T1 hc
    simp only [zI,zU] at hf
    obtain ⟨rfl,rfl,rfl⟩:=hf
    obtain ⟨us,c1,c2,c3⟩:=od _ _ _ _ _ _ _ hc
    refine ⟨us,c1,c2,fun g S w v hI hA hv=>?_⟩
    cases hv with
    | agg _ vs hl h1 hh=>
     obtain ⟨g',q1,q2,q3⟩:=c3 g S w vs.toList hI hA ⟨by simpa using hl,fun j c x e1 e2=>⟨hh j c x e1 (by simpa using e2),h1 x (zG e2)⟩⟩
     exact ⟨g',q1,q2,by have:=q3.agg;simpa using this⟩
   ·cases hf
  ·cases hf
 | false=>
  simp only [cond_false] at hf
  obtain ⟨ha,hf⟩:=iT hf
  split at hf
  ·rename_i c hc
   split at hf
   ·rename_i c' h1 T1 HH
    simp only [zI,zU] at hf
    obtain ⟨rfl,rfl,rfl⟩:=hf
    obtain ⟨us,c1,c2,c3⟩:=od _ _ _ _ _ _ _ HH
    obtain rfl:=BL ha hc
    refine ⟨us,c1,c2,fun g S w v hI hA hv=>?_⟩
    obtain ⟨g',q1,q2,q3⟩:=c3 g S w [v] hI hA ⟨rfl,fun j c x e1 e2=>by
     cases j with
     | zero=>simp at e1 e2;subst e1 e2;exact ⟨hv,hv.sc1 ha hc⟩
     | succ j=>simp at e1⟩
    exact ⟨g',q1,q2,(q3.2 0 _ v rfl rfl).1⟩
   ·cases hf
  ·cases hf
theorem ua:∀{l:List (Bool×Ty)} {aa wL:List A} {h h':H} {T:List Nat},Bv l aa h=some (wL,h',T)→CvL h h' T aa wL
 | [],[],wL,h,h',T,hf=>by
  simp only [Bv,zI,zU] at hf
  obtain ⟨rfl,rfl,rfl⟩:=hf
  exact ⟨rfl,[],rfl,fun u hu=>(by simp at hu),fun g S w vs hI _ _ hv=>⟨g,hI,.refl S g w,hv⟩⟩
 | p::l,a::aa,wL,h,h',T,hf=>by
  simp only [Bv] at hf
  split at hf
  ·rename_i a1 h1 T1 Mg
   split at hf
   ·rename_i as1 h2 T2 Eg
    simp only [zI,zU] at hf
    obtain ⟨rfl,rfl,rfl⟩:=hf
    obtain ⟨us,c1,c2,c3⟩:=ub Mg
    obtain ⟨hl,vs2,d1,d2,d3⟩:=ua Eg
    refine ⟨by simp [hl],us++vs2,by rw [ib,←c1,d1],fun u hu=>?_,fun g S w vs hI hA hlen hv=>?_⟩
    ·rcases zX.1 hu with h | h
     ·exact eO (fun i hi=>zQ _ hi) (c2 u h)
     ·exact eO (fun i hi=>zS _ hi) (d2 u h)
    ·have HM:Agree (.wr T1) (hp h) S:=hA.mono fun i hi=>zQ _ hi
     have xE:Agree (.wr T2) (hp h1) (app us S):=by rw [c1];exact (hA.mono (fun i hi=>zS _ hi)).app us
     cases vs with
     | nil=>simp at hlen
     | cons v vs=>
      obtain ⟨g',q1,q2,q3⟩:=c3 g S w v hI HM (hv 0 a v rfl rfl)
      obtain ⟨g2,z1,z2,z3⟩:=d3 g' _ w vs q1 xE (by simpa using hlen) (fun i a v e1 e2=>(hv (i+1) a v (by simpa using e1) (by simpa using e2)).mono q2.le)
      rw [ib]
      refine ⟨g2,z1,q2.trans z2,fun i a v e1 e2=>?_⟩
      cases i with
      | zero=>simp at e1 e2;subst e1 e2;exact q3.mono z2.le
      | succ i=>exact z3 i a v (by simpa using e1) (by simpa using e2)
   ·cases hf
  ·cases hf
 | [],_::_,_,_,_,_,hf=>by cases hf
 | _::_,[],_,_,_,_,hf=>by cases hf
def xJ (l:List (Bool×Ty)) (pv:A) (h:H):Option (A×H×List Nat):=match pv with
 | .iM aa=>match Bv l aa h with
  | some (wL,h',T)=>some (.iM wL,h',T)
  | none=>none
 | _=>none
def xK (l:List (Bool×Ty)) (pv:A) (h:H):Option (A×H×List Nat):=match l with
 | [p]=>EC p.1 p.2 pv h
 | l=>xJ l pv h
def Plain (sg:dI):Type:=jU sg.ps→pY sg.rg→pY sg.wg→Option (jU sg.rs×pY sg.wg)
def ID (l:List (Bool×Ty)) (pv:A):Option (jU l):=match l with
 | [p]=>La [p] [pv]
 | l=>match pv with
  | .iM aa=>La l aa
  | _=>none
def okW (l:List (Nat×RK)) (q:Nat):Bool:=Nat.beq (q%2) 0 || l.any fun p=>Nat.beq q (g7 p.1)
def Gs (cx:Cx) (f:FuncId) (sg:dI) (aa:List A) (c:pY sg.rg) (d:pY sg.wg):Option (jU sg.rs×pY sg.wg):=cx.call (jU sg.rs×pY sg.wg) f aa (h0 sg.rg sg.wg c d) (fun pv h' T=>match xK sg.rs pv h' with
 | some (C3,h2,T2)=>bif T.ws.all (okW sg.wg) && T2.all (okW sg.wg) then (match ID sg.rs C3,xH sg.wg h2.rg with
  | some y,some d'=>some (y,d')
  | _,_=>none) else none
 | none=>none)
def Ll (cx:Cx) (f:FuncId) (sg:dI):Plain sg:=fun x c d=>Gs cx f sg (l8 sg.ps x) c d
def rK (l:List (Bool×Ty)) (y:jU l):A:=w_ (l8 l y)
structure bB (P:Program) (f:FuncId) (sg:dI) (F:Plain sg):Prop where
 fn:∀x c d y,F x c d=some y→uA P f
 pc:∀x c d y d',F x c d=some (y,d')→∃t aS lk,PC P f (l8 sg.ps x) (hp (h0 sg.rg sg.wg c d)) (hp ⟨t,aS,dq sg.wg d'++dq sg.rg c,lk⟩) (rK sg.rs y)
theorem yH {l:List (Nat×RK)} {ws:List Nat} (h:ws.all (okW l)=true) {r:Nat} (hr:dc l r=false):ws.any (Nat.beq (g7 r))=false:=by
 cases hx:ws.any (Nat.beq (g7 r)) with
 | false=>rfl
 | true=>
  obtain ⟨q,h1,h2⟩:=List.any_eq_true.1 hx
  have h3:=List.all_eq_true.1 h q h1
  obtain rfl:=beq_eq h2
  unfold okW at h3
  rw [Bool.or_eq_true] at h3
  rcases h3 with h3 | h3
  ·have:=beq_eq h3;unfold g7 at this;omega
  ·obtain ⟨p,p1,p2⟩:=List.any_eq_true.1 h3
   have:r=p.1:=by have:=beq_eq p2;unfold g7 at this;omega
   subst this
   rw [show dc l p.1=true from List.any_eq_true.2 ⟨p,p1,Nat.beq_refl _⟩] at hr
   cases hr
theorem Cn {l:List (Bool×Ty)} {pv:A} {y:jU l} (h:ID l pv=some y):∀g v,V g pv v→V g (rK l y) v:=by
 have iM:∀(l:List (Bool×Ty)) (aa:List A) (y:jU l),La l aa=some y→∀g v,V g (.iM aa) v→V g (.iM (l8 l y)) v:=fun l aa y h g v hv=>by
  obtain ⟨k1,k2⟩:=sS l aa y h
  cases hv with
  | iM _ vs hl FY=>
   refine .iM _ vs (by rw [←k1];exact hl) (fun i c x e1 e2=>?_)
   have hi:i<aa.length:=by rw [k1];exact (zB.1 e1).1
   exact k2 i _ c (zD hi) e1 g x (FY i _ x (zD hi) e2)
 match l,y,h with
 | [p],y,h=>exact fun g v hv=>(sS [p] [pv] y h).2 0 pv _ rfl rfl g v hv
 | [],y,h=>
  intro g v hv
  cases pv with
  | iM aa=>exact iM [] aa y h g v hv
  | _=>cases h
 | p::q::l,y,h=>
  intro g v hv
  cases pv with
  | iM aa=>exact iM (p::q::l) aa y h g v hv
  | _=>cases h
theorem Agree.self {T:Fp} {S:Hp}:Agree T S S:=fun _ _=>⟨rfl,Iff.rfl⟩
theorem eW {h:H} {i:Nat} (hl:¬i<cE):(hp h).ob i=dL h.rg i∧((hp h).fr i↔fK h.rg i):=⟨if_neg hl,by show (if i<cE then _ else _)↔_;rw [if_neg hl]⟩
theorem oL {i:Nat} (h:¬i<16777216):res i=g7 (lE i):=by
 unfold res
 rw [tB h];rfl
theorem Bu {l:List (Bool×Ty)} {pv C3:A} {h h':H} {T:List Nat} (hf:xK l pv h=some (C3,h',T)):∃us,hp h'=app us (hp h)∧(∀u∈us,touch (.wr T) u.id=true)∧∀g S w (v:Value),Inv g S w→Agree (.wr T) (hp h) S→V g pv v→∃g',Inv g' (app us S) w∧Ext S g w (app us S) g' w∧V g' C3 v:=by
 have iM:∀(l:List (Bool×Ty)),xJ l pv h=some (C3,h',T)→∃us,hp h'=app us (hp h)∧(∀u∈us,touch (.wr T) u.id=true)∧∀g S w (v:Value),Inv g S w→Agree (.wr T) (hp h) S→V g pv v→∃g',Inv g' (app us S) w∧Ext S g w (app us S) g' w∧V g' C3 v:=fun l hf=>by
  unfold xJ at hf
  split at hf
  ·rename_i aa
   split at hf
   ·rename_i wL h1 T1 hc
    simp only [zI,zU] at hf
    obtain ⟨rfl,rfl,rfl⟩:=hf
    obtain ⟨hl,us,c1,c2,c3⟩:=ua hc
    refine ⟨us,c1,c2,fun g S w v hI hA hv=>?_⟩
    cases hv with
    | iM _ vs NA hh=>
     obtain ⟨g',q1,q2,q3⟩:=c3 g S w vs.toList hI hA (by simpa using NA) (fun i c x e1 e2=>hh i c x e1 (by simpa using e2))
     exact ⟨g',q1,q2,.iM wL vs (by rw [hl,NA]) (fun i c x e1 e2=>q3 i c x e1 (by simpa using e2))⟩
   ·cases hf
  ·cases hf
 unfold xK at hf
 split at hf
 ·exact ub hf
 ·exact iM _ hf
theorem nJ {P:Program} {cx:Cx} (hx:kO P cx) (f:FuncId) (sg:dI):∀aa c d y d',Gs cx f sg aa c d=some (y,d')→uA P f∧∃t aS lk,PC P f aa (hp (h0 sg.rg sg.wg c d)) (hp ⟨t,aS,dq sg.wg d'++dq sg.rg c,lk⟩) (rK sg.rs y):=fun aa c d y d' h=>by
 obtain ⟨pv,h',T,k1,k2⟩:=hx.call _ f _ _ _ _ h
 split at k1
 ·rename_i C3 h2 T2 Zn
  obtain ⟨kw,k1⟩:=ah k1
  rw [zC] at kw
  split at k1
  ·rename_i y' d'' h1 W8
   cases k1
   refine ⟨k2.fn,h2.t,h2.aS,h2.lk,?_⟩
   have hs:=k2.ok (hp (h0 sg.rg sg.wg c d)) Agree.self
   have e:ig T (hp h') (hp (h0 sg.rg sg.wg c d))=hp h':=Hp.ext' (fun i=>by
    show (if touch T i=true then _ else _)=_
    split
    ·rfl
    ·rename_i hi;exact (k2.out i (by simpa using hi)).1.symm) (fun i=>by
    show (if touch T i=true then _ else _)↔_
    split
    ·exact Iff.rfl
    ·rename_i hi;exact (k2.out i (by simpa using hi)).2.symm)
   rw [e] at hs
   obtain ⟨us,c1,c2,c3⟩:=Bu Zn
   have hf:=kH _ _ _ W8
   have e2:hp h2=hp ⟨h2.t,h2.aS,dq sg.wg d'++dq sg.rg c,h2.lk⟩:=by
    have key:∀i,¬i<cE→(hp h2).ob i=dL (dq sg.wg d'++dq sg.rg c) i∧((hp h2).fr i↔fK (dq sg.wg d'++dq sg.rg c) i):=fun i hl=>by
     cases hk:dc sg.wg (lE i) with
     | true=>
      obtain ⟨q1,x,q2⟩:=hf _ hk
      rw [(eW hl).1,(eW hl).2]
      unfold dL fK
      rw [gH,q1,q2]
      exact ⟨rfl,Iff.rfl⟩
     | false=>
      have hw:wt T i=false:=by
       unfold wt
       rw [oL hl,yH kw.1 hk,Bool.and_false]
      have h3:=k2.rd i hw
      have h4:=cV us (hp h') i (fun u hu e=>by
       have:=c2 u hu
       rw [←e] at this
       have this:T2.any (Nat.beq (res i))=true:=by simpa [touch,Fp.wr] using this
       rw [oL hl,yH kw.2 hk] at this;cases this)
      rw [c1,h4.1,h4.2,h3.1,h3.2,(eW hl).1,(eW hl).2]
      show dL (dq sg.wg d++dq sg.rg c) i=_∧(fK (dq sg.wg d++dq sg.rg c) i↔_)
      unfold dL fK
      rw [gH,gH,dN _ _ _ hk,dN _ _ _ hk]
      exact ⟨rfl,Iff.rfl⟩
    refine Hp.ext' (fun i=>?_) (fun i=>?_)
    ·by_cases hl:i<cE
     ·show (if i<cE then _ else _)=(if i<cE then _ else _);rw [if_pos hl,if_pos hl]
     ·rw [(key i hl).1,(eW hl).1]
    ·by_cases hl:i<cE
     ·show (if i<cE then _ else _)↔(if i<cE then _ else _);rw [if_pos hl,if_pos hl]
     ·rw [(key i hl).2,(eW hl).2]
   rw [←e2,c1]
   intro g w vs hI hl hv
   refine (hs g w vs hI hl hv).mono ?_
   rintro e w' ⟨v,g',rfl,q1,q2,q3⟩
   obtain ⟨g2,z1,z2,z3⟩:=c3 g' _ w' v q2 Agree.self q1
   exact ⟨v,g2,rfl,Cn h1 g2 v z3,z1,q3.trans z2⟩
  ·cases k1
 ·cases k1
theorem Gr {P:Program} {cx:Cx} (hx:kO P cx) (f:FuncId) (sg:dI):bB P f sg (Ll cx f sg):=
 ⟨fun x c d y h=>(nJ hx f sg _ _ _ y.1 y.2 h).1,fun x c d y d' h=>(nJ hx f sg _ _ _ _ _ h).2⟩
end
section
open Go.RowKit
def jY:(l:List (Nat×RK))→pY l→List Rg→List Rg
 | [],_,rg=>rg
 | p::l,x,rg=>iY (jY l x.2 rg) p.1 p.2 x.1
theorem kU:∀(l:List (Nat×RK)) (rg:List Rg) (c':pY l),(∀r,dc l r=true→∃x,bn rg r=some x)→∀r,bn (jY l c' rg) r=if dc l r=true then bn (dq l c') r else bn rg r
 | [],rg,c',_,r=>by simp [jY,dc]
 | p::l,rg,c',hx,r=>by
  have ih:=kU l rg c'.2 (fun r hr=>hx r (by show (Nat.beq p.1 r || dc l r)=true;rw [hr,Bool.or_true]))
  have hp:∃x,bn (jY l c'.2 rg) p.1=some x:=by
   rw [ih]
   split
   ·rename_i hk
    exact i_ l c'.2 p.1 hk
   ·exact hx p.1 (by show (Nat.beq p.1 p.1 || dc l p.1)=true;rw [Nat.beq_refl];rfl)
  obtain ⟨x,hp⟩:=hp
  show bn (iY (jY l c'.2 rg) p.1 p.2 c'.1) r=if (Nat.beq p.1 r || dc l r)=true then (bif Nat.beq p.1 r then some (⟨p.1,p.2,c'.1⟩:Rg) else bn (dq l c'.2) r) else bn rg r
  rw [mg _ p.1 p.2 c'.1 r x hp,ih]
  by_cases hr:r=p.1
  ·subst hr;rw [if_pos rfl,Nat.beq_refl];simp
  ·have:Nat.beq p.1 r=false:=by
    cases hb:Nat.beq p.1 r with
    | false=>rfl
    | true=>exact absurd (beq_eq hb).symm hr
   rw [if_neg hr,this];simp
def dI.al (sg:dI):List (Nat×RK):=sg.wg++sg.rg
theorem DL (l k:List (Nat×RK)) (r:Nat):dc (l++k) r=(dc l r || dc k r):=List.any_append
def Q5 (sg:dI) (h:H):Bool:=(sg.al.all fun p=>Nat.blt p.1 64 && p.2.oU (dc sg.al)) && (sg.wg.all fun p=>!(vD h (g7 p.1))) && (sg.ps.all fun p=>oU (dc sg.al) p.2) && (sg.rs.all fun p=>oU (dc sg.al) p.2)
def MK (sg:dI):Fp:=⟨false,sg.al.map fun p=>g7 p.1,!sg.wg.isEmpty,sg.wg.map fun p=>g7 p.1⟩
section
variable {β:Type}
def NL (sg:dI) (F:Plain sg) (aa:List A) (h:H) (K:A→H→Fp→Option β):Option β:=match La sg.ps aa,xH sg.rg h.rg,xH sg.wg h.rg with
 | some x,some c,some d=>bif Q5 sg h then bd (F x c d) (fun p=>Cw (rK sg.rs p.1) (fun v=>K v { h with rg:=jY sg.wg p.2 h.rg } (MK sg))) else none
 | _,_,_=>none
def Nm:List Nat→Fp
 | []=>.no
 | l=>.wr l
theorem mc (l:List Nat) (i:Nat):touch (Nm l) i=touch (.wr l) i:=by cases l<;>rfl
theorem K8 (l:List Nat) (i:Nat) (h:wt (Nm l) i=false):touch (.wr l) i=false:=by
 cases l with
 | nil=>rfl
 | cons a l=>exact r_ h
def Xh (sg:dI) (F:Plain sg) (aa:List A) (h:H) (K:A→H→Fp→Option β):Option β:=match Bv sg.ps aa h with
 | some (wL,h1,T1)=>NL sg F wL h1 (fun v h2 T=>K v h2 ((Nm T1).cat T))
 | none=>none
theorem Hm {kp:Nat→Bool} {i:Nat} (h:i<16777216):iq kp i=false:=by
 unfold iq
 rw [xi h];rfl
theorem DM {kp:Nat→Bool} {i:Nat} (h:¬i<16777216):iq kp i=kp (lE i):=by
 unfold iq
 rw [tB h];rfl
theorem uo (l:List (Nat×RK)) (r:Nat):(l.map fun p=>g7 p.1).any (Nat.beq (g7 r))=dc l r:=by
 induction l with
 | nil=>rfl
 | cons p l ih=>
  show (Nat.beq (g7 r) (g7 p.1) || (l.map fun p=>g7 p.1).any (Nat.beq (g7 r)))=(Nat.beq p.1 r || dc l r)
  rw [ih]
  have:Nat.beq (g7 r) (g7 p.1)=Nat.beq p.1 r:=by
   cases h1:Nat.beq p.1 r with
   | true=>rw [beq_eq h1];exact Nat.beq_refl _
   | false=>
    cases h2:Nat.beq (g7 r) (g7 p.1) with
    | false=>rfl
    | true=>
     have:p.1=r:=by have:=beq_eq h2;unfold g7 at this;omega
     rw [this,Nat.beq_refl] at h1;cases h1
  rw [this]
theorem Ip (l:List (Nat×RK)) (i:Nat):(l.map fun p=>g7 p.1).any (Nat.beq (dk i))=false:=by
 induction l with
 | nil=>rfl
 | cons p l ih=>
  show (Nat.beq (dk i) (g7 p.1) || (l.map fun p=>g7 p.1).any (Nat.beq (dk i)))=false
  rw [ih,Bool.or_false]
  cases h2:Nat.beq (dk i) (g7 p.1) with
  | false=>rfl
  | true=>have:=beq_eq h2;unfold g7 dk at this;omega
theorem nA (sg:dI) (i:Nat):touch (MK sg) i=iq (dc sg.al) i:=by
 have e:touch (MK sg) i=(sg.al.map fun p=>g7 p.1).any (Nat.beq (res i)):=Bool.false_or _
 rw [e]
 by_cases h:i<16777216
 ·rw [mh h,Hm h];exact Ip _ _
 ·rw [oL h,DM h];exact uo _ _
theorem O9 {sg:dI} {i:Nat} (h:wt (MK sg) i=false) (hl:¬i<16777216):dc sg.wg (lE i)=false:=by
 have e:(!sg.wg.isEmpty && (sg.wg.map fun p=>g7 p.1).any (Nat.beq (res i)))=false:=h
 rw [oL hl,uo] at e
 cases hw:sg.wg with
 | nil=>rfl
 | cons p l=>rw [hw] at e;simpa using e
theorem rq {kp:Nat→Bool}:∀(l:List (Bool×Ty)) (x:jU l),(l.all fun p=>oU kp p.2)=true→∀a∈l8 l x,VK kp a
 | [],_,_,a,ha=>by cases ha
 | p::l,x,h,a,ha=>by
  simp only [List.all_cons,zC] at h
  rcases List.mem_cons.1 ha with rfl | ha
  ·exact .pack _ h.1
  ·exact rq l x.2 h.2 a ha
theorem qk {kp:Nat→Bool}:∀(l:List (Nat×RK)) (c:pY l),(∀p∈l,p.2.oU kp=true)→∀r q,bn (dq l c) r=some q→q.k.oU kp=true
 | [],c,_,r,q,h=>by cases h
 | p::l,c,hl,r,q,h=>by
  have h:(bif Nat.beq p.1 r then some (⟨p.1,p.2,c.1⟩:Rg) else bn (dq l c.2) r)=some q:=h
  cases hb:Nat.beq p.1 r with
  | true=>rw [hb] at h;cases h;exact hl p (.head _)
  | false=>rw [hb] at h;exact qk l c.2 (fun p hp=>hl p (.tail _ hp)) r q h
theorem EX {P:Program} {f:FuncId} {sg:dI} {F:Plain sg} (hF:bB P f sg F) {aa:List A} {h:H} {K:A→H→Fp→Option β} {r:β} (hr:NL sg F aa h K=some r):∃pv h' T,K pv h' T=some r∧sO P f aa h h' T pv:=by
 unfold NL at hr
 split at hr
 ·rename_i x c d hx hc hd
  obtain ⟨hs,hr⟩:=ah hr
  obtain ⟨⟨y,d'⟩,hy,hr⟩:=rp hr
  obtain ⟨pv,hr,oW⟩:=wX hr
  unfold Q5 at hs
  simp only [zC] at hs
  obtain ⟨⟨⟨Nv,_⟩,hs2⟩,YT⟩:=hs
  obtain ⟨t,aS,lk,F5⟩:=hF.pc x c d y d' hy
  have hfc:=kH _ _ _ hc
  have hfd:=kH _ _ _ hd
  have Bp:=kU sg.wg h.rg d' (fun r hr=>(hfd r hr).2)
  have WQ:∀r,dc sg.al r=(dc sg.wg r || dc sg.rg r):=fun r=>DL _ _ r
  have fA:∀r,dc sg.al r=true→bn (dq sg.wg d++dq sg.rg c) r=bn h.rg r:=fun r hk=>by
   rw [gH]
   cases hw:dc sg.wg r with
   | true=>obtain ⟨e,q,hq⟩:=hfd r hw;rw [e,hq]
   | false=>
    rw [dN _ _ _ hw]
    exact (hfc r (by rw [WQ,hw] at hk;simpa using hk)).1
  have fB:∀r,dc sg.al r=true→bn (dq sg.wg d'++dq sg.rg c) r=bn (jY sg.wg d' h.rg) r:=fun r hk=>by
   rw [gH,Bp]
   cases hw:dc sg.wg r with
   | true=>obtain ⟨q,hq⟩:=i_ sg.wg d' r hw;rw [hq];simp
   | false=>
    rw [dN _ _ _ hw]
    exact (hfc r (by rw [WQ,hw] at hk;simpa using hk)).1
  have fC:∀r,dc sg.al r=false→bn (dq sg.wg d++dq sg.rg c) r=none:=fun r hk=>by
   rw [WQ,Bool.or_eq_false_iff] at hk
   rw [gH,dN _ _ _ hk.1]
   exact dN _ _ _ hk.2
  have fD:∀i,(¬i<cE→dc sg.wg (lE i)=false)→(hp { h with rg:=jY sg.wg d' h.rg }).ob i=(hp h).ob i∧((hp { h with rg:=jY sg.wg d' h.rg }).fr i↔(hp h).fr i):=fun i hi=>by
   show (if i<cE then fh h.t i else dL (jY sg.wg d' h.rg) i)=(if i<cE then fh h.t i else dL h.rg i)∧((if i<cE then h.aS≤i else fK (jY sg.wg d' h.rg) i)↔(if i<cE then h.aS≤i else fK h.rg i))
   by_cases hl:i<cE
   ·rw [if_pos hl,if_pos hl,if_pos hl,if_pos hl];exact ⟨rfl,Iff.rfl⟩
   ·rw [if_neg hl,if_neg hl,if_neg hl,if_neg hl]
    have:=Bp (lE i)
    rw [hi hl,if_neg (by simp)] at this
    unfold dL fK
    rw [this];exact ⟨rfl,Iff.rfl⟩
  have Dv:∀{i},iq (dc sg.al) i=true→¬i<cE∧dc sg.al (lE i)=true:=fun {i} hi=>by
   unfold iq at hi
   simp only [zC,Bool.not_eq_true'] at hi
   refine ⟨fun hl=>?_,hi.2⟩
   have:Nat.blt i 16777216=true:=xi hl
   rw [this] at hi;cases hi.1
  have So:∀{i},iq (dc sg.al) i=false→¬i<cE→dc sg.al (lE i)=false:=fun {i} hi hl=>by
   rw [DM hl] at hi;exact hi
  have inL:∀(l:List Rg),(∀r q,bn l r=some q→q.k.oU (dc sg.al)=true)→∀i x,¬i<cE→dL l i=some x→NO (dc sg.al) x:=fun l hl i x _ hx=>by
   unfold dL at hx
   split at hx
   ·rename_i q hq
    exact AB (hl _ q hq) hx
   ·cases hx
  have inA:∀(d1:pY sg.wg) r q,bn (dq sg.wg d1++dq sg.rg c) r=some q→q.k.oU (dc sg.al)=true:=fun d1 r q hq=>by
   have iA:∀p∈sg.al,p.2.oU (dc sg.al)=true:=fun p hp=>by
    have:=List.all_eq_true.1 Nv p hp
    simp only [zC] at this
    exact this.2
   rw [gH] at hq
   split at hq
   ·rename_i q1 h1
    cases hq
    exact qk sg.wg d1 (fun p hp=>iA p (zQ _ hp)) _ _ h1
   ·exact qk sg.rg c (fun p hp=>iA p (zS _ hp)) _ _ hq
  refine ⟨pv,_,_,hr,⟨fun i hi=>fD i (fun hl=>?_),fun i hi=>fD i (fun hl=>O9 hi hl),hF.fn x c d _ hy,fun S2 hA=>?_⟩⟩
  ·rw [nA] at hi
   have:=So hi hl
   rw [WQ,Bool.or_eq_false_iff] at this
   exact this.1
  ·have SZ:=PC.frame (kp:=dc sg.al) (S:=S2) (fun i hi=>?_) (fun i hi=>?_) (fun i q hq=>?_) (fun i q hi hq=>?_) (rq sg.ps x hs2) (r:=rK sg.rs y) ?_ F5
   ·have e:Hp.join (dc sg.al) (hp ⟨t,aS,dq sg.wg d'++dq sg.rg c,lk⟩) S2=ig (MK sg) (hp { h with rg:=jY sg.wg d' h.rg }) S2:=by
     refine Hp.ext' (fun i=>?_) (fun i=>?_)
     ·show (if iq (dc sg.al) i=true then _ else _)=(if touch (MK sg) i=true then _ else _)
      rw [nA]
      by_cases hi:iq (dc sg.al) i=true
      ·obtain ⟨n1,n2⟩:=Dv hi
       rw [if_pos hi,if_pos hi,(eW n1).1,(eW n1).1]
       unfold dL
       rw [fB _ n2]
      ·rw [if_neg hi,if_neg hi]
     ·show (if iq (dc sg.al) i=true then _ else _)↔(if touch (MK sg) i=true then _ else _)
      rw [nA]
      by_cases hi:iq (dc sg.al) i=true
      ·obtain ⟨n1,n2⟩:=Dv hi
       rw [if_pos hi,if_pos hi,(eW n1).2,(eW n1).2]
       unfold fK
       rw [fB _ n2]
      ·rw [if_neg hi,if_neg hi]
    rw [e] at SZ
    obtain ⟨u1,u2⟩:=sS _ _ _ hx
    intro g w vs hI hl hv
    refine (SZ g w vs hI (by rw [←u1];exact hl) (fun i p v e1 e2=>?_)).mono ?_
    ·have hi:i<aa.length:=by rw [u1];exact (zB.1 e1).1
     exact u2 i _ p (zD hi) e1 g v (hv i _ v (zD hi) e2)
    ·rintro e w' ⟨v,g',rfl,q1,q2,q3⟩
     exact ⟨v,g',rfl,oW g' v q1,q2,q3⟩
   ·by_cases hl:i<cE
    ·show (if i<cE then fh .nil i else _)=none
     rw [if_pos hl];rfl
    ·rw [(eW hl).1]
     show dL (dq sg.wg d++dq sg.rg c) i=none
     unfold dL
     rw [fC _ (So hi hl)]
   ·obtain ⟨n1,n2⟩:=Dv hi
    obtain ⟨a1,a2⟩:=hA i (by rw [nA];exact hi)
    rw [a1,a2,(eW n1).1,(eW n1).2,(eW n1).1,(eW n1).2]
    show dL h.rg i=dL (dq sg.wg d++dq sg.rg c) i∧(fK h.rg i↔fK (dq sg.wg d++dq sg.rg c) i)
    unfold dL fK
    rw [fA _ n2];exact ⟨rfl,Iff.rfl⟩
   ·by_cases hl:i<cE
    ·have hq:(if i<cE then fh .nil i else _)=some q:=hq
     rw [if_pos hl] at hq;cases hq
    ·rw [(eW hl).1] at hq
     exact inL _ (inA d) i q hl hq
   ·rw [(eW (Dv hi).1).1] at hq
    exact inL _ (inA d') i q (Dv hi).1 hq
   ·have iA:=rq (kp:=dc sg.al) sg.rs y YT
    unfold rK
    generalize l8 sg.rs y=ps at iA
    match ps,iA with
    | [p],iA=>exact iA p (.head _)
    | [],iA=>exact .iM iA
    | p::q::ps,iA=>exact .iM iA
 ·cases hr
theorem ML {P:Program} {f:FuncId} {sg:dI} {F:Plain sg} (hF:bB P f sg F) {aa:List A} {h:H} {K:A→H→Fp→Option β} {r:β} (hr:Xh sg F aa h K=some r):∃pv h' T,K pv h' T=some r∧sO P f aa h h' T pv:=by
 unfold Xh at hr
 split at hr
 ·rename_i wL h1 T1 HH
  obtain ⟨pv,h2,T,k1,k2⟩:=EX hF hr
  obtain ⟨hl,us,c1,c2,c3⟩:=ua HH
  have out:∀i,touch (Nm T1) i=false→(hp h1).ob i=(hp h).ob i∧((hp h1).fr i↔(hp h).fr i):=fun i hi=>by
   rw [c1];exact cV us _ i (fun u hu e=>by rw [mc,e,c2 u hu] at hi;cases hi)
  have f1:mI h h1 (Nm T1):=⟨out,fun i hi=>out i ((mc T1 i).trans (K8 T1 i hi))⟩
  have f2:mI h1 h2 T:=⟨k2.out,k2.rd⟩
  refine ⟨pv,h2,_,k1,(f1.trans f2).out,(f1.trans f2).rd,k2.fn,fun S2 hA=>?_⟩
  rw [←fE f2]
  have A1:=hA.left
  have A2:=Agree.right f1 hA
  have e:ig (Nm T1) (hp h1) S2=app us S2:=by rw [c1];exact gI (fun u hu=>(mc T1 _).trans (c2 u hu)) A1
  rw [e] at A2 ⊢
  intro g w vs hI W4 hv
  obtain ⟨g1,q1,q2,q3⟩:=c3 g S2 w vs hI (fun i hi=>A1 i ((mc T1 i).trans hi)) W4 hv
  refine (k2.ok _ A2 g1 w vs q1 (by rw [hl];exact W4) q3).mono ?_
  rintro e w' ⟨v,g',rfl,z1,z2,z3⟩
  exact ⟨v,g',rfl,z1,z2,q2.trans z3⟩
 ·cases hr
end
end
section
open Go.RowKit
def stay (N i:Nat):Prop:=i<N∨¬i<cE
structure yd (N:Nat) (g g':G):Prop where
 bl:∀i,stay N i→g'.bl i=g.bl i
 mem:g'.mem=g.mem
 lp:g'.lp=g.lp
def VP (N:Nat) (c:A):Prop:=∀g g' v,yd N g g'→V g c v→V g' c v
def FU (N:Nat):Ref→Bool
 | .loc o=>Nat.blt o N
 | .eh _ _=>true
theorem kV {N:Nat} {x:Ref} (h:FU N x=true) {g g':G} (k:yd N g g'):g'.bl x.id=g.bl x.id:=by
 cases x with
 | loc o=>exact k.bl o (.inl (ba h))
 | eh r j=>exact k.bl _ (.inr (Nat.not_lt.2 (m4 r j)))
def okF (p:A→Bool):Nat→Tr A→Bool
 | 0,_=>true
 | n+1,F=>p (aZ F.get n) && okF p n F
theorem Dp {p:A→Bool} {F:Tr A}:∀{n:Nat},okF p n F=true→∀i,i<n→p (aZ F.get i)=true
 | n+1,h,i,hi=>by
  have h:(p (aZ F.get n) && okF p n F)=true:=h
  rw [zC] at h
  by_cases e:i=n
  ·rw [e];exact h.1
  ·exact Dp h.2 i (by omega)
def tx (N:Nat):Nat→A→Bool
 | 0,_=>false
 | k+1,a=>match a with
  | .agg cs=>cs.all (tx N k)
  | .iM cs=>cs.all (tx N k)
  | .fn _ fi ca=>fi.all (tx N k) && ca.all (tx N k)
  | .ptr o _=>Nat.blt o N
  | .tp x _=>FU N x
  | .sl o _ _ _=>Nat.blt o N
  | .ts x _ _ _=>FU N x
  | .tf x _ _ _=>FU N x
  | .tw x _=>FU N x
  | .aa x _ _ _=>FU N x
  | .mp x=>FU N x
  | .rA q n F _ _ _ _=>Nat.blt q N && okF (tx N k) n F
  | _=>true
theorem VP.tp {N:Nat} {x:Ref} {π:List Sp} (h:FU N x=true):VP N (.tp x π):=fun g g' v k hv=>by
 cases hv with
 | tp _ _ b s h1 hk=>exact .tp x π b s ((kV h k).trans h1) hk
theorem VP.tw {N:Nat} {x:Ref} {z:Nat} (h:FU N x=true):VP N (.tw x z):=fun g g' v k hv=>by
 cases hv with
 | sa _ _ ad h1=>exact .sa x z ad ((kV h k).trans h1)
 | tw _ _ n b cap t h1 hn hx hp d hd=>exact .tw x z n b cap t ((kV h k).trans h1) hn hx hp d hd
theorem VP.e0 {N:Nat}:VP N .e0:=fun g g' v k hv=>by cases hv;exact .e0 _
theorem VP.mp {N:Nat} {x:Ref} (h:FU N x=true):VP N (.mp x):=fun g g' v k hv=>by
 cases hv with
 | mp _ b s h1=>exact .mp x b s ((kV h k).trans h1)
theorem fU {N:Nat}:∀(k:Nat) (a:A),tx N k a=true→VP N a
 | 0,_,h=>by cases h
 | k+1,.v x,_=>fun g g' v _ hv=>by cases hv;exact .v _
 | k+1,.agg cs,h=>fun g g' v hg hv=>by
  have h:cs.all (tx N k)=true:=h
  rw [List.all_eq_true] at h
  cases hv with
  | agg _ vs hl h1 hh=>exact .agg cs vs hl h1 (fun i c x e1 e2=>fU k c (h c (zG e1)) g g' x hg (hh i c x e1 e2))
 | k+1,.iM cs,h=>fun g g' v hg hv=>by
  have h:cs.all (tx N k)=true:=h
  rw [List.all_eq_true] at h
  cases hv with
  | iM _ vs hl hh=>exact .iM cs vs hl (fun i c x e1 e2=>fU k c (h c (zG e1)) g g' x hg (hh i c x e1 e2))
 | k+1,.fn f fi ca,h=>fun g g' v hg hv=>by
  have h:(fi.all (tx N k) && ca.all (tx N k))=true:=h
  rw [zC,List.all_eq_true,List.all_eq_true] at h
  cases hv with
  | fn _ _ _ fv cv hf hc h1 h2=>exact .fn f fi ca fv cv hf hc (fun i c x e1 e2=>fU k c (h.1 c (zG e1)) g g' x hg (h1 i c x e1 e2)) (fun i c x e1 e2=>fU k c (h.2 c (zG e1)) g g' x hg (h2 i c x e1 e2))
 | k+1,.ptr o off,h=>fun g g' v hg hv=>by
  cases hv with
  | ptr _ _ b s h1=>exact .ptr o off b s ((hg.bl o (.inl (ba h))).trans h1)
 | k+1,.tp x π,h=>.tp h
 | k+1,.sl o off z n,h=>fun g g' v hg hv=>by
  cases hv with
  | sl _ _ _ _ b cap s h1 hn hx hs=>exact .sl o off z n b cap s ((hg.bl o (.inl (ba h))).trans h1) hn hx hs
 | k+1,.ts x z off n,h=>fun g g' v hg hv=>by
  cases hv with
  | ts _ _ _ _ b cap s h1 hn hx hs hp d hd hq=>exact .ts x z off n b cap s ((kV h hg).trans h1) hn hx hs hp d hd hq
  | sc _ _ _ _ ad h1 hn=>exact .sc x z off n ad ((kV h hg).trans h1) hn
 | k+1,.tf x z off n,h=>fun g g' v hg hv=>by
  cases hv with
  | tf _ _ _ _ b s h1 hx hs d hd=>exact .tf x z off n b s ((kV h hg).trans h1) hx hs d hd
  | Ct _ _ _ _ ad h1 hn=>exact .Ct x z off n ad ((kV h hg).trans h1) hn
 | k+1,.tw x z,h=>.tw h
 | k+1,.aa x π n z,h=>fun g g' v hg hv=>by
  cases hv with
  | aa _ _ _ _ b cap s h1 hk hn hx=>exact .aa x π n z b cap s ((kV h hg).trans h1) hk hn hx
 | k+1,.e0,_=>.e0
 | k+1,.tl t f l,_=>fun g g' v hg hv=>by
  cases hv with
  | tl _ _ _ _ h=>exact .tl t f l v (by rw [hg.mem];exact h)
 | k+1,.nn t l,_=>fun g g' v hg hv=>by
  cases hv with
  | nn _ _ a n c h=>exact .nn t l a n c (by rw [hg.mem];exact h)
 | k+1,.dp t x,_=>fun g g' v hg hv=>by
  cases hv with
  | dp _ _ b off f hm=>exact .dp t x b off f (fun j c e=>by rw [hg.mem];exact hm j c e)
 | k+1,.mp x,h=>.mp h
 | k+1,.op r o,_=>fun g g' v hg hv=>by
  cases hv with
  | op _ _ _ h0 h1=>exact .op r o v h0 (fun j e=>VP.tp (N:=N) (x:=.eh r j) rfl g g' v hg (h1 j e))
 | k+1,.os r z o,_=>fun g g' v hg hv=>by
  cases hv with
  | os _ _ _ _ h0 h1=>exact .os r z o v (fun e=>VP.e0 (N:=N) g g' v hg (h0 e)) (fun j e=>VP.tw (N:=N) (x:=.eh r j) rfl g g' v hg (h1 j e))
 | k+1,.om r o,_=>fun g g' v hg hv=>by
  cases hv with
  | om _ _ _ h0 h1=>exact .om r o v h0 (fun j e=>VP.mp (N:=N) (x:=.eh r j) rfl g g' v hg (h1 j e))
 | k+1,.rA q n F ps j aa bd,h=>fun g g' v hg hv=>by
  have h:(Nat.blt q N && okF (tx N k) n F)=true:=h
  rw [zC] at h
  cases hv with
  | rA _ _ _ _ _ _ _ b s l h0 hl h1 h2 h3 h4 h5=>exact .rA q n F ps j aa bd b s l ((hg.bl q (.inl (ba h.1))).trans h0) (by rw [hg.lp];exact hl) h1 h2 h3 h4 (fun i hi=>fU k _ (Dp h.2 i hi) g g' _ hg (h5 i hi))
 | k+1,.un,_=>fun g g' v _ hv=>by cases hv;exact .un
 | k+1,.cD,_=>fun g g' v _ _=>.cD v
theorem iK {N:Nat}:∀(t:Ty) (x:t.T),∀c∈aA t x,VP N c
 | .int k,x,c,h=>by rcases zF.1 h with rfl;exact fU 1 _ rfl
 | .bool,x,c,h=>by rcases zF.1 h with rfl;exact fU 1 _ rfl
 | .unit,_,c,h=>by cases h
 | .pair a b,x,c,h=>(zX.1 h).elim (iK a x.1 c) (iK b x.2 c)
 | .arr n t,l,c,h=>by
  obtain ⟨i,_,h⟩:=List.mem_flatMap.1 h
  exact iK t _ c h
 | .aI t,l,c,h=>by rcases zF.1 h with rfl;exact fU 1 _ rfl
 | .ptr r,x,c,h=>by rcases zF.1 h with rfl;exact fU 1 _ rfl
 | .db r,j,c,h=>by rcases zF.1 h with rfl;exact fU 1 _ rfl
 | .iX r z,x,c,h=>by rcases zF.1 h with rfl;exact fU 1 _ rfl
 | .oA r z,j,c,h=>by rcases zF.1 h with rfl;exact fU 1 _ rfl
 | .mp r,x,c,h=>by rcases zF.1 h with rfl;exact fU 1 _ rfl
theorem nM {N:Nat} (a:Bool) (t:Ty) (x:t.T):VP N (bK a t x):=by
 unfold bK
 have h:=iK (N:=N) t x
 cases a with
 | true=>
  intro g g' v hg hv
  cases hv with
  | agg _ vs hl h1 hh=>exact .agg _ vs hl h1 (fun i c y e1 e2=>h c (zG e1) g g' y hg (hh i c y e1 e2))
 | false=>
  generalize aA t x=cs at h
  match cs,h with
  | [c],h=>exact h c (.head _)
  | [],_=>exact fun g g' v _ _=>.cD v
  | _::_::_,_=>exact fun g g' v _ _=>.cD v
def FV (N:Nat):Ob→Prop
 | .cells cs=>∀c∈cs,VP N c
 | .cN (.map es)=>∀e∈es,VP N e.1∧VP N e.2
 | .cN .zi=>True
 | .cN (.loop _ _)=>True
theorem CV {N:Nat} {k:RK} {c:k.T} {j:Nat} {x:Ob} (h:dK k c j=some x):FV N x:=by
 cases k with
 | box t=>
  simp only [dK] at h
  split at h
  ·cases h;exact iK t _
  ·cases h
 | row t=>
  simp only [dK] at h
  split at h
  ·cases h;exact fun c hc=>by obtain ⟨y,_,hy⟩:=List.mem_flatMap.1 hc;exact iK t y c hy
  ·cases h
 | map ka tk va tv=>
  simp only [dK] at h
  split at h
  ·cases h;exact fun e he=>by obtain ⟨y,_,rfl⟩:=List.mem_map.1 he;exact ⟨nM _ _ _,nM _ _ _⟩
  ·cases h
def ZG (g:G):Option (Option Nat)→Option (Option Nat×(Nat×Nat))
 | some (some o)=>g.bl o
 | some none=>some (none,(0,0))
 | none=>none
def gj (N:Nat) (names:List (Option Nat)) (g:G):G:=⟨fun i=>if i<N∨¬i<cE then g.bl i else ZG g names[i-N]?,g.mem,g.lp⟩
theorem Er (N:Nat) (names:List (Option Nat)) (g:G):yd N g (gj N names g):=⟨fun i h=>if_pos h,rfl,rfl⟩
theorem vP {N:Nat} {names:List (Option Nat)} {g:G} {k:Nat} {nm:Option Nat} (h:names[k]?=some nm) (hl:N+names.length≤cE):(gj N names g).bl (N+k)=ZG g (some nm):=by
 have hk:=(zB.1 h).1
 show (if N+k<N∨¬N+k<cE then g.bl (N+k) else _)=_
 rw [if_neg (by omega),Nat.add_sub_cancel_left,h]
theorem mb.to {g g':G} {w:World} {b t:Nat} {cs:List A} (h:mb g w b t cs) {N:Nat} (hs:yd N g g') (hc:∀c∈cs,VP N c):mb g' w b t cs:=by
 obtain ⟨cur,ty,k1,k2,k3,k4⟩:=h
 exact ⟨cur,ty,k1,k2,k3,fun j c x e1 e2=>⟨hc c (zG e1) g g' x hs (k4 j c x e1 e2).1,(k4 j c x e1 e2).2⟩⟩
theorem ou.to {g g':G} {x:NN} {ob:Obj} (h:ou g x ob) {N:Nat} (hs:yd N g g') (hc:FV N (.cN x)):ou g' x ob:=by
 cases x with
 | map es=>
  obtain ⟨jb,clock,k1,k2,k3⟩:=h
  exact ⟨jb,clock,k1,k2,fun i e q e1 e2=>⟨(hc q (zG e2)).1 g g' _ hs (k3 i e q e1 e2).1,(hc q (zG e2)).2 g g' _ hs (k3 i e q e1 e2).2⟩⟩
 | zi=>exact h
 | loop=>exact h
theorem Ln {N:Nat} {names:List (Option Nat)} {S S' S0:Hp} {g g0:G} {w w0:World} (hl:N+names.length≤cE)
  (h1:∀i x,stay N i→S'.ob i=some x→(S.ob i=some x∧FV N x)∨∃cs cs',S.ob i=some (.cells cs)∧x = .cells cs'∧cs'.length=cs.length∧∀vs,Vs g cs vs→Vs (gj N names g) cs' vs)
  (h2:∀i x,¬stay N i→S'.ob i=some x→∃k nm,i=N+k∧names[k]?=some nm∧(∀o,nm=some o→S.ob o=some x∧FV N x)∧(nm=none→x = .cells []))
  (h3:∀(k k' o:Nat),names[k]?=some (some o)→names[k']?=some (some o)→k=k')
  (h4:∀(k o:Nat),names[k]?=some (some o)→stay N o→S'.ob o=none)
  (h5:∀i,S'.fr i→(¬stay N i→N+names.length≤i)∧(stay N i→S.fr i))
  (hf:∀o,N≤o→o<cE→S0.fr o∧g0.bl o=none) (hI:Inv g S w) (hE:Ext S0 g0 w0 S g w) :
  Inv (gj N names g) S' w∧Ext S0 g0 w0 S' (gj N names g) w:=by
 have hs:=Er N names g
 have ns:∀{i},¬stay N i→N≤i∧i<cE:=fun {i} h=>by unfold stay at h;omega
 have Tu:∀i,¬stay N i→(gj N names g).bl i=ZG g names[i-N]?:=fun i h=>if_neg h
 have src:∀i x b s,S'.ob i=some x→(gj N names g).bl i=some (some b,s)→∃o y,S.ob o=some y∧g.bl o=some (some b,s)∧(i=o∧stay N i∨¬stay N i∧∃k,i=N+k∧names[k]?=some (some o)):=fun i x b s e1 e2=>by
  by_cases hi:stay N i
  ·rcases h1 i x hi e1 with ⟨q1,q2⟩ | ⟨cs,cs',q1,_,_⟩
   ·exact ⟨i,x,q1,by rw [←hs.bl i hi];exact e2,.inl ⟨rfl,hi⟩⟩
   ·exact ⟨i,_,q1,by rw [←hs.bl i hi];exact e2,.inl ⟨rfl,hi⟩⟩
  ·obtain ⟨k,nm,rfl,hk,q1,q2⟩:=h2 i x hi e1
   rw [vP hk hl] at e2
   cases nm with
   | none=>cases e2
   | some o=>exact ⟨o,x,(q1 o rfl).1,e2,.inr ⟨hi,k,rfl,hk⟩⟩
 have inj:∀i j x y b s s',S'.ob i=some x→S'.ob j=some y→(gj N names g).bl i=some (some b,s)→(gj N names g).bl j=some (some b,s')→i=j:=fun i j x y b s s' e1 e2 k1 k2=>by
  obtain ⟨o1,x1,p1,p3,p4⟩:=src i x b s e1 k1
  obtain ⟨o2,x2,q1,q3,q4⟩:=src j y b s' e2 k2
  have ho:=hI.inj o1 o2 x1 x2 b s s' p1 q1 p3 q3
  subst ho
  rcases p4 with ⟨rfl,p5⟩ | ⟨p5,k,rfl,p6⟩
  ·rcases q4 with ⟨rfl,_⟩ | ⟨q5,k',rfl,q6⟩
   ·rfl
   ·rw [h4 k' i q6 p5] at e1;cases e1
  ·rcases q4 with ⟨rfl,q5⟩ | ⟨q5,k',rfl,q6⟩
   ·rw [h4 k j p6 q5] at e2;cases e2
   ·rw [h3 k k' o1 p6 q6]
 refine ⟨⟨fun i cs e=>?_,fun i x e=>?_,fun i e=>?_,fun i b s e=>?_,inj,hI.mem,fun i b s j x e k=>?_,hI.lp⟩,⟨⟨fun o p e=>?_,fun _ _ _ e=>hE.le.mem _ _ _ e,fun _ _ e=>hE.le.lp _ _ e⟩,hE.os,hE.tape,hE.output,hE.size,hE.frame,fun k ⟨i,s,x,e1,e2⟩=>?_,fun o p e=>?_,fun o e=>?_,hE.qI,hE.lpo⟩⟩
 ·by_cases hi:stay N i
  ·rw [hs.bl i hi]
   rcases h1 i _ hi e with ⟨q1,q2⟩ | ⟨ds,iR,q1,q2,q3,q4⟩
   ·exact (hI.cells i cs q1).imp id fun ⟨b,t,k1,k2⟩=>⟨b,t,k1,k2.to hs q2⟩
   ·cases q2
    rcases hI.cells i ds q1 with ⟨k1,k2⟩ | ⟨b,t,k1,cur,ty,k2,k3,k4⟩
    ·exact .inl ⟨k1,List.length_eq_zero_iff.1 (by rw [q3,k2];rfl)⟩
    ·exact .inr ⟨b,t,by rw [q3];exact k1,cur,ty,k2,k3,by rw [q3];exact q4 _ k4⟩
  ·obtain ⟨k,nm,rfl,hk,q1,q2⟩:=h2 i _ hi e
   rw [vP hk hl]
   cases nm with
   | none=>
    have:=q2 rfl
    cases this
    exact .inl ⟨rfl,rfl⟩
   | some o=>
    obtain ⟨q3,q4⟩:=q1 o rfl
    exact (hI.cells o cs q3).imp id fun ⟨b,t,k1,k2⟩=>⟨b,t,k1,k2.to hs q4⟩
 ·by_cases hi:stay N i
  ·rcases h1 i _ hi e with ⟨q1,q2⟩ | ⟨ds,iR,q1,q2,q3⟩
   ·obtain ⟨b,s,ob,k1,k2,k3⟩:=hI.cN i x q1
    exact ⟨b,s,ob,(hs.bl i hi).trans k1,k2,k3.to hs q2⟩
   ·cases q2
  ·obtain ⟨k,nm,rfl,hk,q1,q2⟩:=h2 i _ hi e
   cases nm with
   | none=>have:=q2 rfl;cases this
   | some o=>
    obtain ⟨q3,q4⟩:=q1 o rfl
    obtain ⟨b,s,ob,k1,k2,k3⟩:=hI.cN o x q3
    exact ⟨b,s,ob,(vP hk hl).trans k1,k2,k3.to hs q4⟩
 ·obtain ⟨q1,q2⟩:=h5 i e
  by_cases hi:stay N i
  ·rw [hs.bl i hi];exact hI.fresh i (q2 hi)
  ·rw [Tu i hi,zb (by have:=q1 hi;omega)];rfl
 ·by_cases hi:stay N i
  ·rw [hs.bl i hi] at e;exact hI.lt i b s e
  ·rw [Tu i hi] at e
   generalize names[i-N]?=nm at e
   match nm,e with
   | some (some o),e=>exact hI.lt o b s e
 ·obtain ⟨o,y,p1,p3,_⟩:=src i x b s e k
  exact hI.kD o b s j y p1 p3
 ·have hi:stay N o:=by
   by_cases hi:stay N o
   ·exact hi
   ·obtain ⟨a1,a2⟩:=ns hi
    rw [(hf o a1 a2).2] at e;cases e
  rw [hs.bl o hi];exact hE.le.bl o p e
 ·obtain ⟨o,y,p1,p3,_⟩:=src i x k s e1 e2
  exact hE.own k ⟨o,s,y,p1,p3⟩
 ·by_cases hi:stay N o
  ·rw [hs.bl o hi] at e;exact hE.H8 o p e
  ·obtain ⟨a1,a2⟩:=ns hi
   exact .inr ⟨(hf o a1 a2).2,(hf o a1 a2).1⟩
 ·by_cases hi:stay N o
  ·exact hE.fr o ((h5 o e).2 hi)
  ·obtain ⟨a1,a2⟩:=ns hi
   exact (hf o a1 a2).1
end
end Go.Bm