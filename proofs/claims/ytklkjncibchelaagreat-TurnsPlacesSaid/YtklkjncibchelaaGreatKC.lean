/- Texts of one proof, put together: see each part. -/
import Derived.LoopNIn
import Derived.Test.YtklkjncibchelaaGreatRows
import Derived.Shelf.Spec.SlicesGrow
import Derived.Shelf.RegionOpenPlain
import Derived.WalkKit
import Derived.Lib.Walk
import Derived.Lib.SliceRun
import Derived.KernelRfl
import Derived.Deep.Slices
import Derived.WideShapes
import Derived.ChangeArms
import Derived.Deep.OwnRows
import Derived.WideKeyArgs
import Derived.OpenShut
import Derived.Carry
import Derived.Conc.LoneSelect
import Derived.Test.YtklkjncibchelaaGreatKB
set_option maxHeartbeats 2000000
noncomputable section
set_option linter.unusedVariables false
set_option linter.unusedSimpArgs false
namespace Go.Bm
section
open Go.RowKit
theorem any_beq {l:List Nat} {i:Nat}:l.any (Nat.beq i)=true↔i∈l:=by
 rw [List.any_eq_true]
 exact ⟨fun ⟨x,h1,h2⟩=>by rw [beq_eq h2];exact h1,fun h=>⟨i,h,Nat.beq_refl i⟩⟩
theorem qF {N:Nat} {bs bX:List Nat} {eK:List (Nat×RK)} {T:Fp} (h:Ge N bs bX eK T.ws=true) {i:Nat} (hl:i<bS) (h1:i<N) (h2:i∉bX++bs):wt T i=false:=by
 cases hx:wt T i with
 | false=>rfl
 | true=>
  unfold wt at hx
  rw [zC] at hx
  obtain ⟨q,q1,q2⟩:=List.any_eq_true.1 hx.2
  obtain rfl:=beq_eq q2
  have:=List.all_eq_true.1 h _ q1
  rw [iJ hl] at this
  unfold b8 at this
  rw [show Nat.beq (2*i%2) 0=true by rw [show 2*i%2=0 by omega];rfl,show 2*i / 2=i by omega] at this
  simp only [cond_true,Bool.or_eq_true] at this
  rcases this with (this | this) | this
  ·have:=Nat.le_of_ble_eq_true this;omega
  ·exact absurd (zS _ (any_beq.1 this)) h2
  ·exact absurd (zQ _ (any_beq.1 this)) h2
theorem qE {N:Nat} {bs bX:List Nat} {eK:List (Nat×RK)} {T:Fp} (h:Ge N bs bX eK T.ws=true) {i:Nat} (hl:¬i<bS) (h1:b5 eK (hJ i)=false):wt T i=false:=by
 cases hx:wt T i with
 | false=>rfl
 | true=>
  unfold wt at hx
  rw [zC] at hx
  obtain ⟨q,q1,q2⟩:=List.any_eq_true.1 hx.2
  obtain rfl:=beq_eq q2
  have:=List.all_eq_true.1 h _ q1
  rw [kK hl] at this
  unfold d_ at this
  rw [show Nat.beq ((2*hJ i+1)%2) 0=false by rw [show (2*hJ i+1)%2=1 by omega];rfl] at this
  simp only [cond_false] at this
  obtain ⟨p,p1,p2⟩:=List.any_eq_true.1 this
  have e:p.1=hJ i:=by have:=beq_eq p2;unfold d_ at this;omega
  rw [show b5 eK (hJ i)=true from List.any_eq_true.2 ⟨p,p1,by rw [e];exact Nat.beq_refl _⟩] at h1
  cases h1
theorem wM {n:Nat} {F:Tr A} {aO:Nat→A→Prop} (hg:∀i a t x,i<n→gu a t (aP F.get i)=some x→aO i (bq a t x)):∀(l:List (Nat×Bool×Ty)) (x:fL (l.map (·.2))),OI n l F=some x→yL aO l x
 | [],_,_=>trivial
 | p::l,x,h=>by
  unfold OI at h
  obtain ⟨hn,h⟩:=ae h
  split at h
  ·rename_i y z h1 h2
   cases h
   exact ⟨hg _ _ _ _ (aQ hn) h1,wM hg l z h2⟩
  ·cases h
def yQ (t:Ty) (tt:Tr dt) (l:List t.T):Option Nat→Prop
 | some o=>o<bS∧cY tt o=some (.cells (l.flatMap (aB t)))
 | none=>l=[]
def qM (z:Nat) (a:A):Option Nat→Prop
 | some o=>a = .tw (.loc o) z
 | none=>∀g v,V g a v→∃ad,v = .slice ad 0 0
theorem nZ {t:Ty} {tt:Tr dt} {a:A} {l:List t.T} {nm:Option Nat} (h:z8 t tt a=some (l,nm)):yQ t tt l nm∧qM t.size a nm:=by
 unfold z8 at h
 split at h
 ·rename_i o z
  split at h
  ·rename_i t' l' h1
   obtain ⟨h2,h⟩:=ae h
   rw [zC] at h2
   split at h
   ·rename_i l1 XL
    obtain ⟨e,e2⟩:=bJ XL
    cases e
    cases e2
    simp only [zI,zU] at h
    obtain ⟨rfl,rfl⟩:=h
    refine ⟨⟨aQ h2.2,?_⟩,by rw [beq_eq h2.1];rfl⟩
    unfold cY
    rw [h1];rfl
   ·cases h
  ·cases h
 ·simp only [zI,zU] at h
  obtain ⟨rfl,rfl⟩:=h
  exact ⟨rfl,fun g v hv=>by cases hv;exact ⟨_,rfl⟩⟩
 ·simp only [zI,zU] at h
  obtain ⟨rfl,rfl⟩:=h
  exact ⟨rfl,fun g v hv=>by cases hv;exact ⟨_,rfl⟩⟩
 ·cases h
theorem wN {n:Nat} {F:Tr A} {tt:Tr dt}:∀(l:List (Nat×Ty)) (x:fL (l.map fun p=>(false,Ty.aF p.2))) (names:List (Option Nat)),Dy n l F tt=some (x,names)→names.length=l.length ∧
  ∀(aO:Nat→A→Prop) (ke:Nat→Option Ob→Prop) (j:Nat),
   (∀(k:Nat) (nm:Option Nat) (i z:Nat),names[k]?=some nm→i<n→qM z (aP F.get i) nm→aO i (.tw (.loc (j+k)) z)) →
   (∀(k:Nat) (nm:Option Nat) (t:Ty) (l:List t.T),names[k]?=some nm→yQ t tt l nm→ke (j+k) (some (.cells (l.flatMap (aB t)))))→yK aO l j∧yM ke l j x
 | [],x,names,h=>by
  simp only [Dy,zI,zU] at h
  obtain ⟨_,rfl⟩:=h
  exact ⟨rfl,fun _ _ _ _ _=>⟨trivial,trivial⟩⟩
 | p::l,x,names,h=>by
  unfold Dy at h
  obtain ⟨hn,h⟩:=ae h
  split at h
  ·rename_i y z h1 h2
   simp only [zI,zU] at h
   obtain ⟨rfl,rfl⟩:=h
   obtain ⟨q1,q2⟩:=wN l z.1 z.2 h2
   obtain ⟨r1,r2⟩:=nZ (l:=y.1) (nm:=y.2) h1
   refine ⟨by simp [q1],fun aO ke j k1 k2=>?_⟩
   obtain ⟨u1,u2⟩:=q2 aO ke (j+1) (fun k nm i z e=>by have:=k1 (k+1) nm i z (by simpa using e);rwa [show j+(k+1)=j+1+k by omega] at this) (fun k nm t l e=>by have:=k2 (k+1) nm t l (by simpa using e);rwa [show j+(k+1)=j+1+k by omega] at this)
   exact ⟨⟨k1 0 y.2 p.1 p.2.size rfl (aQ hn) r2,u1⟩,⟨k2 0 y.2 p.2 y.1 rfl r1,u2⟩⟩
  ·cases h
theorem wv {n:Nat} {F:Tr A} {tt:Tr dt}:∀{l:List (Nat×Ty)} {x:fL (l.map fun p=>(false,Ty.aF p.2))} {names:List (Option Nat)},Dy n l F tt=some (x,names)→∀(k o:Nat),names[k]?=some (some o)→o<bS
 | [],x,names,h,k,o,e=>by
  simp only [Dy,zI,zU] at h
  obtain ⟨_,rfl⟩:=h
  simp at e
 | p::l,x,names,h,k,o,e=>by
  unfold Dy at h
  obtain ⟨hn,h⟩:=ae h
  split at h
  ·rename_i y z h1 h2
   simp only [zI,zU] at h
   obtain ⟨rfl,rfl⟩:=h
   cases k with
   | zero=>
    have e:y.2=some o:=by simpa using e
    have:=(nZ (l:=y.1) (nm:=y.2) h1).1
    rw [e] at this
    exact this.1
   | succ k=>exact wv (x:=z.1) (names:=z.2) h2 k o (by simpa using e)
  ·cases h
theorem wP {tt:Tr dt} {aO:Nat→Option Ob→Prop}:∀(l:List ((Nat×Option Nat)×Ty)) (bs:List Nat) (x:fL (l.map fun p=>(false,p.2))),(∀b t (y:t.T),b∈bs→cY tt b=some (.cells (aB t y))→aO b (some (.cells (aB t y))))→OJ l bs tt=some x→yO aO l bs x
 | [],_,_,_,_=>trivial
 | p::l,b::bs,x,hg,h=>by
  unfold OJ at h
  split at h
  ·rename_i t' y h1
   split at h
   ·rename_i y' z h2 h3
    cases h
    obtain ⟨e,e2⟩:=bJ h2
    obtain ⟨p1,p2⟩:=p
    simp only at e
    subst e
    cases e2
    exact ⟨hg b t' y (.head _) (by unfold cY;rw [h1];rfl),wP l bs z (fun b t y hb=>hg b t y (.tail _ hb)) h3⟩
   ·cases h
  ·cases h
 | _::_,[],_,_,h=>by cases h
theorem Vs.vT {g:G} {c:A} {cs:List A} {vs:List Value} (h:Vs g (c::cs) vs):∃v us,vs=v::us∧V g c v∧v.oneCell'=true∧Vs g cs us:=by
 match vs,h with
 | [],h=>exact absurd h.1 (by simp)
 | v::us,h=>
  have h0:=h.2 0 c v rfl rfl
  exact ⟨v,us,rfl,h0.1,h0.2,by simpa using h.1,fun j c x e1 e2=>h.2 (j+1) c x (by simpa using e1) (by simpa using e2)⟩
theorem rB {tt:Tr dt}:∀(ks:List (Bool×Ty)) (cs:List A) (x:fL (D9 ks)) (names:List (Option Nat)),EB ks cs tt=some (x,names)→names.length=jD ks∧(∀(k o:Nat),names[k]?=some (some o)→o<bS)∧∀j,(Gf ks x j).length=cs.length ∧
  (∀(ke:Nat→Option Ob→Prop),(∀(k:Nat) (nm:Option Nat) (t:Ty) (l:List t.T),names[k]?=some nm→yQ t tt l nm→ke (j+k) (some (.cells (l.flatMap (aB t)))))→vp ke ks x j) ∧
  ∀(N:Nat) (g g':G),sn N g g'→(∀(k:Nat) (nm:Option Nat) (z:Nat) (c:A),names[k]?=some nm→qM z c nm→∀v,V g c v→V g' (.tw (.loc (j+k)) z) v)→∀vs,Vs g cs vs→Vs g' (Gf ks x j) vs
 | [],[],x,names,h=>by
  simp only [EB,zI,zU] at h
  obtain ⟨_,rfl⟩:=h
  exact ⟨rfl,fun k o e=>by simp at e,fun j=>⟨rfl,fun _ _=>trivial,fun N g g' _ _ vs hv=>⟨hv.1,fun j c x e=>by simp [Gf] at e⟩⟩⟩
 | (true,u)::l,c::cs,x,names,h=>by
  unfold EB at h
  split at h
  ·rename_i y z h1 h2
   simp only [zI,zU] at h
   obtain ⟨rfl,rfl⟩:=h
   obtain ⟨q1,K2,q2⟩:=rB l cs z.1 z.2 h2
   obtain ⟨r1,r2⟩:=nZ (l:=y.1) (nm:=y.2) h1
   refine ⟨by simp [q1,jD],fun k o e=>?_,fun j=>?_⟩
   ·cases k with
    | zero=>
     have e:y.2=some o:=by simpa using e
     rw [e] at r1
     exact r1.1
    | succ k=>exact K2 k o (by simpa using e)
   ·obtain ⟨u1,u2,u3⟩:=q2 (j+1)
    refine ⟨congrArg Nat.succ u1,fun ke k2=>⟨k2 0 y.2 u y.1 rfl r1,u2 ke (fun k nm t l e=>by have:=k2 (k+1) nm t l (by simpa using e);rwa [show j+(k+1)=j+1+k by omega] at this)⟩,fun N g g' hs hk vs hv=>?_⟩
    obtain ⟨v,us,rfl,v1,v2,v3⟩:=hv.vT
    exact .cons (hk 0 y.2 u.size c rfl r2 v v1) v2 (u3 N g g' hs (fun k nm z c e=>by have:=hk (k+1) nm z c (by simpa using e);rwa [show j+(k+1)=j+1+k by omega] at this) us v3)
  ·cases h
 | (false,u)::l,c::cs,x,names,h=>by
  unfold EB at h
  split at h
  ·rename_i y z h1 h2
   simp only [zI,zU] at h
   obtain ⟨rfl,rfl⟩:=h
   obtain ⟨q1,K2,q2⟩:=rB l cs z.1 z.2 h2
   refine ⟨by simp [q1,jD],K2,fun j=>?_⟩
   obtain ⟨u1,u2,u3⟩:=q2 j
   refine ⟨congrArg Nat.succ u1,u2,fun N g g' hs hk vs hv=>?_⟩
   obtain ⟨v,us,rfl,v1,v2,v3⟩:=hv.vT
   exact .cons (jX false u y g g' v hs (fl h1 v1)) v2 (u3 N g g' hs hk us v3)
  ·cases h
 | [],_::_,_,_,h=>by cases h
 | (true,_)::_,[],_,_,h=>by cases h
 | (false,_)::_,[],_,_,h=>by cases h
theorem sH {tt:Tr dt}:∀(l:List ((Nat×Option Nat)×List (Bool×Ty))) (bs:List Nat) (x:CB l) (names:List (Option Nat)),wO l bs tt=some (x,names)→names.length=lb l∧(∀(k o:Nat),names[k]?=some (some o)→o<bS) ∧
  ∀(N:Nat) (g g':G) (j:Nat) (aO:Nat→Option Ob→Prop),sn N g g' →
   (∀(k:Nat) (nm:Option Nat) (z:Nat) (c:A),names[k]?=some nm→qM z c nm→∀v,V g c v→V g' (.tw (.loc (j+k)) z) v) →
   (∀(k:Nat) (nm:Option Nat) (t:Ty) (l:List t.T),names[k]?=some nm→yQ t tt l nm→aO (j+k) (some (.cells (l.flatMap (aB t))))) →
   (∀b cs cs',b∈bs→cY tt b=some (.cells cs)→cs'.length=cs.length→(∀vs,Vs g cs vs→Vs g' cs' vs)→aO b (some (.cells cs')))→yN aO l bs j x
 | [],_,x,names,h=>by
  simp only [wO,zI,zU] at h
  obtain ⟨_,rfl⟩:=h
  exact ⟨rfl,fun k o e=>by simp at e,fun _ _ _ _ _ _ _ _ _=>trivial⟩
 | p::l,b::bs,x,names,h=>by
  unfold wO at h
  split at h
  ·rename_i cs Ri
   split at h
   ·rename_i y z h1 h2
    simp only [zI,zU] at h
    obtain ⟨rfl,rfl⟩:=h
    obtain ⟨q1,K2,q2⟩:=rB p.2 cs y.1 y.2 h1
    obtain ⟨r1,WV,r2⟩:=sH l bs z.1 z.2 h2
    have ap:∀(k:Nat) (nm:Option Nat),y.2[k]?=some nm→(y.2++z.2)[k]?=some nm:=fun k nm e=>by rw [zK (zB.1 e).1];exact e
    have aq:∀(k:Nat) (nm:Option Nat),z.2[k]?=some nm→(y.2++z.2)[jD p.2+k]?=some nm:=fun k nm e=>by rw [zJ (by omega),q1,Nat.add_sub_cancel_left];exact e
    refine ⟨by simp [q1,r1,lb],fun k o e=>?_,fun N g g' j aO hs hk hr hb=>?_⟩
    ·by_cases hk:k<y.2.length
     ·rw [zK hk] at e;exact K2 k o e
     ·rw [zJ (by omega)] at e;exact WV _ o e
    ·obtain ⟨u1,u2,u3⟩:=q2 j
     refine ⟨hb b cs _ (.head _) (by unfold cY;rw [Ri];rfl) u1 (u3 N g g' hs (fun k nm zz c e=>hk k nm zz c (ap k nm e))),u2 aO (fun k nm t l e=>hr k nm t l (ap k nm e)),?_⟩
     exact r2 N g g' (j+jD p.2) aO hs (fun k nm zz c e=>by have:=hk (jD p.2+k) nm zz c (aq k nm e);rwa [←Nat.add_assoc] at this) (fun k nm t l e=>by have:=hr (jD p.2+k) nm t l (aq k nm e);rwa [←Nat.add_assoc] at this) (fun b cs cs' hm=>hb b cs cs' (.tail _ hm))
   ·cases h
  ·cases h
 | _::_,[],_,_,h=>by cases h
theorem ot {N:Nat} {bX:List Nat}:∀{names:List (Option Nat)},uH N bX names=true→(∀(k o:Nat),names[k]?=some (some o)→N≤o∨o∈bX)∧∀(k k' o:Nat),names[k]?=some (some o)→names[k']?=some (some o)→k=k'
 | [],_=>⟨fun k o h=>by simp at h,fun k k' o h=>by simp at h⟩
 | none::l,h=>by
  obtain ⟨h1,h2⟩:=ot (show uH N bX l=true from h)
  refine ⟨fun k o e=>?_,fun k k' o e e'=>?_⟩
  ·cases k with
   | zero=>cases e
   | succ k=>exact h1 k o (by simpa using e)
  ·cases k with
   | zero=>cases e
   | succ k=>
    cases k' with
    | zero=>cases e'
    | succ k'=>rw [h2 k k' o (by simpa using e) (by simpa using e')]
 | some q::l,h=>by
  have h:((Nat.ble N q || bX.any (Nat.beq q)) && !(l.any (xb q)) && uH N bX l)=true:=h
  simp only [zC,Bool.or_eq_true,Bool.not_eq_true'] at h
  obtain ⟨⟨ha,hb⟩,hc⟩:=h
  obtain ⟨h1,h2⟩:=ot hc
  have Wy:∀k,l[k]?=some (some q)→False:=fun k e=>by
   have:l.any (xb q)=true:=List.any_eq_true.2 ⟨some q,zG e,Nat.beq_refl q⟩
   rw [hb] at this;cases this
  refine ⟨fun k o e=>?_,fun k k' o e e'=>?_⟩
  ·cases k with
   | zero=>
    simp only [List.getElem?_cons_zero,zI] at e
    subst e
    exact ha.imp Nat.le_of_ble_eq_true any_beq.1
   | succ k=>exact h1 k o (by simpa using e)
  ·cases k with
   | zero=>
    simp only [List.getElem?_cons_zero,zI] at e
    subst e
    cases k' with
    | zero=>rfl
    | succ k'=>exact (Wy k' (by simpa using e')).elim
   | succ k=>
    cases k' with
    | zero=>
     simp only [List.getElem?_cons_zero,zI] at e'
     subst e'
     exact (Wy k (by simpa using e)).elim
    | succ k'=>rw [h2 k k' o (by simpa using e) (by simpa using e')]
structure mT (H:LH) (E:zo) (ds:List Nat) (F:Tr A) (h:Go.Bm.H):Prop where
 slot:∀i,VP h.aL (aP F.get i)
 mem:∀i x,cY h.t i=some x→y_ h.aL x
 top:h.aL+H.m≤bS
 WA:∀b∈E.bs++E.cs,b<h.aL
 del:∀b∈E.bX,b<h.aL
 Yv:∀b∈ds,b<h.aL
 apart:∀b∈E.bs++E.cs,b∉E.bX
 loop:∀q∈E.qs,wA h.t q=true∧q∉E.bX++(E.bs++E.cs)
 eK:∀r,b5 H.eK r=true→∃x,a7 h.rg r=some x
theorem qz {H:LH} {E:zo} {ds:List Nat} {F:Tr A} {h:Go.Bm.H} (k:tu H E ds F h=true):mT H E ds F h:=by
 unfold tu at k
 rw [zC,zC,zC,zC,zC,zC,zC,zC] at k
 obtain ⟨⟨⟨⟨⟨⟨⟨⟨k1,k2⟩,k3⟩,k4⟩,k5⟩,k6⟩,k7⟩,k9⟩,k8⟩:=k
 rw [List.all_eq_true] at k4 k5 k6 k7 k8 k9
 refine ⟨v5 k1,fun i x e=>?_,Nat.le_of_ble_eq_true k3,fun b hb=>aQ (k4 b hb),fun b hb=>aQ (k5 b hb),fun b hb=>aQ (k6 b hb),fun b hb hd=>?_,fun q hq=>?_,fun r hr=>?_⟩
 ·unfold cY at e
  split at e
  ·rename_i m hm
   cases e
   exact AD (iH k2 i m hm)
  ·cases e
 ·have:=k7 b hb
  rw [any_beq.2 hd] at this;cases this
 ·have:=k9 q hq
  rw [zC] at this
  refine ⟨this.1,fun hm=>?_⟩
  have h2:=this.2
  rw [any_beq.2 hm] at h2;cases h2
 ·obtain ⟨p,p1,p2⟩:=List.any_eq_true.1 hr
  have:=k8 p p1
  rw [beq_eq p2] at this
  exact Option.isSome_iff_exists.1 this
theorem sF {t:Tr dt} {q:Nat} (h:wA t q=true):cY t q=some (.bV (.loop .ready none)):=by
 unfold wA at h
 split at h
 ·rename_i hq;unfold cY;rw [hq];rfl
 ·cases h
section
variable {H:LH} {gE GQ:List Nat} {E:zo} {Fe:Tr A} {he:Go.Bm.H} {s:H.S} {Fc:Tr A} {hc:Go.Bm.H}
theorem o_ {aO:Nat→Option Ob→Prop}:∀(l:List ((Nat×Option Nat)×Ty)) (bs:List Nat) (x:fL (l.map fun p=>(false,p.2))),(∀b∈bs,∀ob,aO b ob)→yO aO l bs x
 | [],_,_,_=>trivial
 | _::_,[],_,_=>trivial
 | p::l,b::bs,x,h=>⟨h b (.head _) _,o_ l bs x.2 (fun b hb=>h b (.tail _ hb))⟩
theorem o8 {aO:Nat→Option Ob→Prop} {m:Nat}:∀(l:List (Nat×Ty)) (j:Nat) (x:fL (l.map fun p=>(false,Ty.aF p.2))),j+l.length≤m→(∀i,j≤i→i<m→∀ob,aO i ob)→yM aO l j x
 | [],_,_,_,_=>trivial
 | p::l,j,x,hm,h=>by
  have hm:j+(l.length+1)≤m:=hm
  exact ⟨h j (Nat.le_refl _) (by omega) _,o8 l (j+1) x.2 (by omega) (fun i h1 h2=>h i (by omega) h2)⟩
theorem o7 {aO:Nat→Option Ob→Prop} {m:Nat}:∀(ks:List (Bool×Ty)) (x:fL (D9 ks)) (j:Nat),j+jD ks≤m→(∀i,j≤i→i<m→∀ob,aO i ob)→vp aO ks x j
 | [],_,_,_,_=>trivial
 | (true,_)::l,x,j,hm,h=>by
  have hm:j+(jD l+1)≤m:=hm
  exact ⟨h j (Nat.le_refl _) (by omega) _,o7 l x.2 (j+1) (by omega) (fun i h1 h2=>h i (by omega) h2)⟩
 | (false,_)::l,x,j,hm,h=>o7 l x.2 j hm h
theorem o9 {aO:Nat→Option Ob→Prop} {m:Nat}:∀(l:List ((Nat×Option Nat)×List (Bool×Ty))) (bs:List Nat) (j:Nat) (x:CB l),j+lb l≤m→(∀b∈bs,∀ob,aO b ob)→(∀i,j≤i→i<m→∀ob,aO i ob)→yN aO l bs j x
 | [],_,_,_,_,_,_=>trivial
 | _::_,[],_,_,_,_,_=>trivial
 | p::l,b::bs,j,x,hm,hb,h=>by
  have hm:j+(jD p.2+lb l)≤m:=hm
  exact ⟨hb b (.head _) _,o7 p.2 x.1 j (by omega) h,o9 l bs _ x.2 (by omega) (fun b DY=>hb b (.tail _ DY)) (fun i h1 h2=>h i (by omega) h2)⟩
theorem mm (EO:mT H E GQ Fe he) (J:kA H gE E Fe he s Fc hc):(∀i,i<he.aL→i∉E.bX++(E.bs++E.cs)→(hp hc).ob i=(hp he).ob i) ∧
  (∀i,¬i<bS→b5 H.eK (hJ i)=false→(hp hc).ob i=(hp he).ob i∧((hp hc).fr i↔(hp he).fr i)) ∧
  ∀i,wt (jT H he.aL E) i=false→(hp hc).ob i=(hp he).ob i∧((hp hc).fr i↔(hp he).fr i):=by
 have Oq:=EO.top
 have hm:H.m=H.grow.length+lb H.qG:=rfl
 have DR:∀i,i∉E.bX++(E.bs++E.cs)→(∀k,k<H.m→i≠he.aL+k)→cY hc.t i=cY he.t i:=fun i h1 h2=>by
  have Oe:∀b∈E.bs++E.cs,∀ob,b∉E.bX++(E.bs++E.cs)→(∀k,k<H.m→b≠he.aL+k)→ob=cY he.t b:=fun b hb ob hn=>absurd (zS _ hb) hn
  have wu:∀i,he.aL≤i→i<he.aL+H.m→∀ob,i∉E.bX++(E.bs++E.cs)→(∀k,k<H.m→i≠he.aL+k)→ob=cY he.t i:=fun i q1 q2 ob _ hn=>absurd (show i=he.aL+(i-he.aL) by omega) (hn (i-he.aL) (by omega))
  exact J.t (fun i ob=>i∉E.bX++(E.bs++E.cs)→(∀k,k<H.m→i≠he.aL+k)→ob=cY he.t i) (fun i hi hn=>absurd hi hn) (fun i _ _ _=>rfl)
   (o_ _ _ _ (fun b hb=>Oe b (zQ _ hb))) (o9 (m:=he.aL+H.m) _ _ _ _ (by omega) (fun b hb=>Oe b (zS _ hb)) (fun i q1 q2=>wu i (by omega) q2)) (o8 (m:=he.aL+H.m) _ _ _ (by omega) wu) i h1 h2
 have cE:∀i,¬i<bS→b5 H.eK (hJ i)=false→(hp hc).ob i=(hp he).ob i∧((hp hc).fr i↔(hp he).fr i):=fun i hl hk=>by
  rw [(cR hl).1,(cR hl).2,(cR hl).1,(cR hl).2]
  unfold cp di
  rw [J.rg,gI _ _ _ EO.eK,hk,if_neg (by simp)]
  exact ⟨rfl,Iff.rfl⟩
 refine ⟨fun i h1 h2=>?_,cE,fun i hw=>?_⟩
 ·have hl:i<bS:=by omega
  show (if i<bS then cY hc.t i else _)=(if i<bS then cY he.t i else _)
  rw [if_pos hl,if_pos hl]
  exact DR i h2 (fun k _=>by omega)
 ·have hw:(((E.bs++E.cs).map b8++E.bX.map b8)++((List.range H.m).map (fun k=>b8 (he.aL+k))++H.eK.map fun p=>d_ p.1)).any (Nat.beq (res i))=false:=hw
  rw [List.any_append,List.any_append,List.any_append] at hw
  simp only [Bool.or_eq_false_iff] at hw
  obtain ⟨⟨w1,w2⟩,w3,w4⟩:=hw
  by_cases hl:i<bS
  ·have V2:∀l:List Nat,(l.map b8).any (Nat.beq (res i))=false→i∉l:=fun l h hm=>by
    rw [any_beq.2 (by rw [iJ hl];exact List.mem_map.2 ⟨i,hm,rfl⟩)] at h;cases h
   have n3:∀k,k<H.m→i≠he.aL+k:=fun k hk e=>by
    rw [any_beq.2 (by rw [iJ hl,e];exact List.mem_map.2 ⟨k,List.mem_range.2 hk,rfl⟩)] at w3;cases w3
   refine ⟨?_,?_⟩
   ·show (if i<bS then cY hc.t i else _)=(if i<bS then cY he.t i else _)
    rw [if_pos hl,if_pos hl]
    exact DR i (fun h=>(zX.1 h).elim (V2 _ w2) (V2 _ w1)) n3
   ·show (if i<bS then hc.aL≤i else _)↔(if i<bS then he.aL≤i else _)
    rw [if_pos hl,if_pos hl,J.aL]
    refine ⟨fun h=>by omega,fun h=>?_⟩
    rcases Nat.lt_or_ge i (he.aL+H.m) with h1 | h1
    ·exact absurd (show i=he.aL+(i-he.aL) by omega) (n3 (i-he.aL) (by omega))
    ·exact h1
  ·refine cE i hl ?_
   rw [kK hl,o6] at w4
   exact w4
theorem Dw {n:Nat} {F':Tr A} {h':Go.Bm.H} {eN:List Nat} {T:Fp} (EO:mT H E GQ Fe he) (kb:∀i,he.aL≤i→i<bS→cY he.t i=none) (LN:∀i,i∉gE→aP F'.get i=aP Fe.get i)
  (LD:∀i,i<he.aL→i∉E.bX++(E.bs++E.cs++E.qs)→(hp h').ob i=(hp he).ob i) (QN:∀i,¬i<bS→b5 H.eK (hJ i)=false→(hp h').ob i=(hp he).ob i∧((hp h').fr i↔(hp he).fr i))
  (A_:vv H n he.aL E.bs E.cs E.qs E.bX GQ F' h' eN T=some s) (J:kA H gE E Fe he s Fc hc) {S0:Hp} {g0:G} {w0 w:World} {a:Act} (hf:∀o,he.aL≤o→o<bS→S0.fr o∧g0.bc o=none)
  (hR:R S0 g0 w0 (cS n F' eN (hp h')) a w):R S0 g0 w0 (cS n Fc GQ (hp hc)) a w:=by
 have Oq:=EO.top
 have hm:H.m=H.grow.length+lb H.qG:=rfl
 unfold vv at A_
 obtain ⟨vE,A9⟩:=ae A_
 clear A_
 rw [zC,zC] at vE
 obtain ⟨⟨_,O6⟩,We⟩:=vE
 rw [List.all_eq_true] at We
 obtain rfl:=yk O6
 split at A9
 ·rename_i v gg b ee c hv hg hb Fu DW
  obtain ⟨GH,QR⟩:=ae A9
  clear A9
  cases QR
  obtain ⟨gr,nG⟩:=gg
  obtain ⟨er,nC⟩:=ee
  obtain ⟨n1,n2⟩:=ot GH
  obtain ⟨p1,p2⟩:=wN _ _ _ hg
  obtain ⟨c1,c2,c3⟩:=sH _ _ _ _ Fu
  obtain ⟨g,hI,hE,hD,hs,hV⟩:=hR
  have hV:∀i,i<n→V g (aP F'.get i) (a.tmps.getD i undef):=hV
  have Fj:(nG++nC).length=H.m:=by rw [zY,p1,c1];exact hm.symm
  have DE:∀(k o:Nat),(nG++nC)[k]?=some (some o)→o<bS:=fun k o e=>by
   by_cases hk:k<nG.length
   ·rw [zK hk] at e;exact wv hg k o e
   ·rw [zJ (by omega)] at e;exact c2 _ o e
  have Rx:∀(k:Nat) (nm:Option Nat),nG[k]?=some nm→(nG++nC)[k]?=some nm:=fun k nm e=>by rw [zK (zB.1 e).1];exact e
  have cap:∀(k:Nat) (nm:Option Nat),nC[k]?=some nm→(nG++nC)[H.grow.length+k]?=some nm:=fun k nm e=>by rw [zJ (by omega),p1,Nat.add_sub_cancel_left];exact e
  have LK:∀(k o:Nat),(nG++nC)[k]?=some (some o)→he.aL≤o∨o∈E.bX:=n1
  have LJ:∀(k k' o:Nat),(nG++nC)[k]?=some (some o)→(nG++nC)[k']?=some (some o)→k=k':=n2
  generalize oK:nG++nC=names at Fj DE Rx cap LK LJ
  have QZ:he.aL+names.length≤bS:=by rw [Fj];exact Oq
  have fY:=xW he.aL names g
  have KW:∀(k:Nat) (nm:Option Nat) (z:Nat) (cc:A),names[k]?=some nm→qM z cc nm→∀v,V g cc v→V (gj he.aL names g) (.tw (.loc (he.aL+k)) z) v:=fun k nm z cc e zi v QG=>by
   cases nm with
   | some o=>
    have zi:cc = .tw (.loc o) z:=zi
    rw [zi] at QG
    have bo:(gj he.aL names g).bc (he.aL+k)=g.bc o:=qm e QZ
    cases QG with
    | ni _ _ ad h1=>exact .ni (.loc (he.aL+k)) z ad (bo.trans h1)
    | tw _ _ m b cap t h1 hn hx hp d hd=>exact .tw (.loc (he.aL+k)) z m b cap t (bo.trans h1) hn hx hp d hd
   | none=>
    obtain ⟨ad,h1⟩:=zi g _ QG
    rw [h1]
    exact .ni (.loc (he.aL+k)) z ad (qm e QZ)
  have KX:∀(k:Nat) (nm:Option Nat) (t:Ty) (l:List t.T),names[k]?=some nm→yQ t h'.t l nm→∀x,some (Ob.cells (l.flatMap (aB t)))=some x→(he.aL+k<he.aL→(((hp h').ob (he.aL+k)=some x∧y_ he.aL x)∨∃cs cs',(hp h').ob (he.aL+k)=some (.cells cs)∧x = .cells cs'∧cs'.length=cs.length∧∀vs,Vs g cs vs→Vs (gj he.aL names g) cs' vs)) ∧
    (he.aL≤he.aL+k→he.aL+k<bS→∃k' nm,he.aL+k=he.aL+k'∧names[k']?=some nm∧(∀o,nm=some o→(hp h').ob o=some x∧y_ he.aL x)∧(nm=none→x = .cells [])):=fun k nm t l e xE x hx=>by
   cases hx
   refine ⟨fun du=>by omega,fun _ du=>⟨k,nm,rfl,e,fun o ho=>?_,fun ho=>?_⟩⟩
   ·subst ho
    have xE:o<bS∧cY h'.t o=some (.cells (l.flatMap (aB t))):=xE
    refine ⟨?_,fun c hc=>by obtain ⟨y,_,hy⟩:=List.mem_flatMap.1 hc;exact eH t y c hy⟩
    show (if o<bS then _ else _)=_
    rw [if_pos xE.1];exact xE.2
   ·subst ho
    have xE:l=[]:=xE
    subst xE;rfl
  have cM:∀i,i<bS→(hp h').ob i=cY h'.t i:=fun i hi=>if_pos hi
  have g6:=p2 (fun i c=>i<n→V (gj he.aL names g) c (a.tmps.getD i undef)) (fun i ob=>∀x,ob=some x→(i<he.aL→(((hp h').ob i=some x∧y_ he.aL x)∨∃cs cs',(hp h').ob i=some (.cells cs)∧x = .cells cs'∧cs'.length=cs.length∧∀vs,Vs g cs vs→Vs (gj he.aL names g) cs' vs))∧(he.aL≤i→i<bS→∃k nm,i=he.aL+k∧names[k]?=some nm∧(∀o,nm=some o→(hp h').ob o=some x∧y_ he.aL x)∧(nm=none→x = .cells []))) he.aL
   (fun k nm i z e hi zi _=>KW k nm z _ (Rx k nm e) zi _ (hV i hi)) (fun k nm t l e xE=>KX k nm t l (Rx k nm e) xE)
  have hF:=J.F (fun i c=>i<n→V (gj he.aL names g) c (a.tmps.getD i undef)) (fun i _ _=>.bR _)
   (fun i hi hn=>by
    have:=hV i hn
    rw [LN i hi] at this
    exact EO.slot i g _ _ fY this)
   (wM (fun i ag t x hi hx _=>jX ag t x g _ _ fY (fl hx (hV i hi))) _ _ hv) g6.1
  have hT:=J.t _ (fun i _ x hx=>by cases hx)
   (fun i hi x hx=>by
    refine ⟨fun du=>.inl ?_,fun h1 h2=>by rw [kb i h1 h2] at hx;cases hx⟩
    have XY:(hp h').ob i=cY he.t i:=by
     by_cases hq:i∈E.qs
     ·rw [cM i (by omega),sF (We i hq),sF (EO.loop i hq).1]
     ·rw [LD i du (fun h=>by
       rcases zX.1 h with h | h
       ·exact hi (zQ _ h)
       ·rcases zX.1 h with h | h
        ·exact hi (zS _ h)
        ·exact hq h)]
      exact if_pos (by omega)
    exact ⟨XY.trans hx,EO.mem i x hx⟩)
   (wP (tt:=h'.t) _ _ _ (fun b t y Rp Ro x hx=>by
    cases hx
    have du:=EO.WA b (zQ _ Rp)
    exact ⟨fun _=>.inl ⟨by rw [cM b (by omega)];exact Ro,eH t y⟩,fun h=>by omega⟩) hb)
   (c3 he.aL g (gj he.aL names g) (he.aL+H.grow.length) _ fY (fun k nm z cc e zi v hv=>by have:=KW (H.grow.length+k) nm z cc (cap k nm e) zi v hv;rwa [←Nat.add_assoc] at this) (fun k nm t l e xE=>by have:=KX (H.grow.length+k) nm t l (cap k nm e) xE;rwa [←Nat.add_assoc] at this)
    (fun b cs cs' Rp Ro hl X1 x hx=>by
     cases hx
     have du:=EO.WA b (zS _ Rp)
     exact ⟨fun _=>.inr ⟨cs,cs',by rw [cM b (by omega)];exact Ro,rfl,hl,X1⟩,fun h=>by omega⟩)) g6.2
  have Yf:∀i,i∈E.bX→cY hc.t i=none:=fun i hi=>by
   have wu:∀i,he.aL≤i→i<he.aL+H.m→∀ob:Option Ob,i∈E.bX→ob=none:=fun i q1 _ ob hn=>by have:=EO.del _ hn;omega
   have Oe:∀b∈E.bs++E.cs,∀ob:Option Ob,b∈E.bX→ob=none:=fun b hb ob hn=>absurd hn (EO.apart b hb)
   exact J.t (fun i ob=>i∈E.bX→ob=none) (fun _ _ _=>rfl) (fun i hn hd=>absurd (zQ _ hd) hn) (o_ _ _ _ (fun b hb=>Oe b (zQ _ hb))) (o9 (m:=he.aL+H.m) _ _ _ _ (by omega) (fun b hb=>Oe b (zS _ hb)) (fun i q1 q2=>wu i (by omega) q2)) (o8 (m:=he.aL+H.m) _ _ _ (by omega) wu) i hi
  have LU:=gz _ _ _ DW
  have Wv:∀i,¬i<bS→(hp hc).ob i=(hp h').ob i∧((hp hc).fr i↔(hp h').fr i):=fun i hl=>by
   cases hk:b5 H.eK (hJ i) with
   | true=>
    obtain ⟨q1,_⟩:=LU _ hk
    rw [(cR hl).1,(cR hl).2,(cR hl).1,(cR hl).2]
    unfold cp di
    rw [J.rg,gI _ _ _ EO.eK,hk,if_pos rfl,q1]
    exact ⟨rfl,Iff.rfl⟩
   | false=>
    have e1:=(mm EO J).2.1 i hl hk
    have e2:=QN i hl hk
    exact ⟨e1.1.trans e2.1.symm,e1.2.trans e2.2.symm⟩
  have Fv:∀i,i<bS→(hp hc).ob i=cY hc.t i:=fun i hi=>if_pos hi
  have td:∀{i},¬stay he.aL i→he.aL≤i∧i<bS:=fun {i} h=>by unfold stay at h;omega
  have Wd:=Ev (S':=hp hc) QZ (fun i x hi e=>?_) (fun i x hi e=>?_) LJ (fun k o e hi=>?_) (fun i e=>⟨fun hi=>?_,fun hi=>?_⟩) hf hI hE
  ·refine ⟨_,Wd.1,Wd.2,⟨hD.1,fun i d e e1 e2=>?_⟩,hs,fun i hi=>hF i hi⟩
   have Rd:=EO.Yv d (zG e1)
   refine ⟨fun hd=>?_,fun hd=>absurd hd (by have:bS=16777216:=rfl;omega)⟩
   obtain ⟨b',s',q1,q2⟩:=(hD.2 i d e e1 e2).1 hd
   exact ⟨b',s',(fY.bc d (.inl Rd)).trans q1,q2⟩
  ·rcases hi with hi | hi
   ·rw [Fv i (by omega)] at e
    exact (hT i x e).1 hi
   ·refine .inl ⟨(Wv i hi).1.symm.trans e,?_⟩
    rw [(cR hi).1] at e
    unfold cp at e
    split at e
    ·exact wz e
    ·cases e
  ·obtain ⟨h1,h2⟩:=td hi
   rw [Fv i h2] at e
   exact (hT i x e).2 h1 h2
  ·have Wg:=DE k o e
   rcases LK k o e with h1 | h1
   ·rcases hi with hi | hi
    ·omega
    ·exact absurd Wg hi
   ·rw [Fv o Wg];exact Yf o h1
  ·obtain ⟨h1,h2⟩:=td hi
   have e:(if i<bS then hc.aL≤i else _):=e
   rw [if_pos h2,J.aL] at e
   rw [Fj];exact e
  ·rcases hi with hi | hi
   ·have e:(if i<bS then hc.aL≤i else _):=e
    rw [if_pos (show i<bS by omega),J.aL] at e
    omega
   ·exact (Wv i hi).2.1 e
 ·cases A9
end
end
section
open Go.RowKit
theorem Inv.wc {g:G} {S:Hp} {w:World} (h:Inv g S w) {q b:Nat} {s:Nat×Nat} {st st':LoopState} {pe pe':Option Code} {rr:Loop} (ho:S.ob q=some (.bV (.loop st pe))) (hg:g.bc q=some (some b,s)) (hr:w.heap[b]?=some (.loop rr)) :
  Inv g (S.set q (.bV (.loop st' pe'))) (w.putObj b (.loop { rr with state:=st',pending:=pe' }))∧Ext S g w (S.set q (.bV (.loop st' pe'))) g (w.putObj b (.loop { rr with state:=st',pending:=pe' })):=by
 have hb:b<w.heap.size:=(Array.getElem?_eq_some_iff.1 hr).1
 refine h.vP ho hg (by simp) (fun k hk=>World.putObj_heap_other hk) rfl rfl rfl ⟨_,World.putObj_heap_same hb,_,rfl,rfl,rfl⟩ (fun l e=>⟨_,World.putObj_heap_same hb,?_⟩)
 obtain ⟨r,k1,k2⟩:=h.lp b l e
 rw [hr] at k1
 cases k1
 exact k2
theorem Inv.Li {g:G} {S:Hp} {w:World} (h:Inv g S w) {q:Nat} (hf:S.fr q) (rr:Loop) :
  ∃g',Inv g' (S.new q (.bV (.loop rr.state rr.pending))) (w.alloc (.loop rr))∧Ext S g w (S.new q (.bV (.loop rr.state rr.pending))) g' (w.alloc (.loop rr))∧g'.bc q=some (some w.heap.size,(0,0))∧g'.lp w.heap.size=some (oz rr):=by
 obtain ⟨i1,x1⟩:=h.alloc (s:=(0,0)) hf (x:=.bV (.loop rr.state rr.pending)) (ob:=.loop rr) ⟨_,heap_alloc_new w _,rr,rfl,rfl,rfl⟩
 have DQ:(fa g q (some w.heap.size,(0,0))).lp w.heap.size=none:=by
  cases hl:(fa g q (some w.heap.size,(0,0))).lp w.heap.size with
  | none=>rfl
  | some l=>
   obtain ⟨r,k1,_⟩:=h.lp _ l hl
   have:=(Array.getElem?_eq_some_iff.1 k1).1
   omega
 have bo:=bG (g:=g) (o:=q) (p:=(some w.heap.size,(0,0)))
 generalize fa g q (some w.heap.size,(0,0))=g1 at i1 x1 DQ bo
 have hle:Le g1 ⟨g1.bc,g1.mem,fun k=>if k=w.heap.size then some (oz rr) else g1.lp k⟩:=⟨fun _ _ e=>e,fun _ _ _ e=>e,fun b l e=>by
  show (if b=w.heap.size then _ else g1.lp b)=some l
  split
  ·rename_i hb;rw [hb,DQ] at e;cases e
  ·exact e⟩
 refine ⟨⟨g1.bc,g1.mem,fun k=>if k=w.heap.size then some (oz rr) else g1.lp k⟩,⟨fun o cs e=>(i1.cells o cs e).imp id fun ⟨b,t,k1,cur,ty,k2,k3,k4⟩=>⟨b,t,k1,cur,ty,k2,k3,k4.mono hle⟩,fun o x e=>?_,i1.fresh,i1.lt,i1.inj,i1.mem,i1.gw,fun b l e=>?_⟩,⟨x1.le.trans hle,x1.os,x1.tape,x1.output,x1.size,x1.frame,fun k ⟨o,s,x,e1,e2⟩=>x1.own k ⟨o,s,x,e1,e2⟩,x1.Bx,x1.fr,x1.ml,fun b l e=>?_⟩,bo,if_pos rfl⟩
 ·obtain ⟨b,s,ob,k1,k2,k3⟩:=i1.bV o x e
  exact ⟨b,s,ob,k1,k2,k3.mono hle⟩
 ·have e:(if b=w.heap.size then some (oz rr) else g1.lp b)=some l:=e
  split at e
  ·rename_i hb;cases e;exact ⟨rr,by rw [hb];exact heap_alloc_new w _,rfl⟩
  ·exact i1.lp b l e
 ·have e:(if b=w.heap.size then some (oz rr) else g1.lp b)=some l:=e
  split at e
  ·rename_i hb;exact .inr (by omega)
  ·exact x1.lpo b l e
section
variable {β:Type}
theorem sB {h:H} {q:Nat} {x:dt} {t':Tr dt} (hq:q<16777216) (ht:t'.get=fun m=>if m=q then some x else h.t.get m):i_ h { h with t:=t' } (.wr [b8 q])∧∀S,Agree (.wr [b8 q]) (hp h) S→et (.wr [b8 q]) (hp { h with t:=t' }) S=S.set q x.low:=by
 have e:=kT (h:=h) (x:=x) hq ht
 have hT:∀u∈[Up.set q x.low],touch (.wr [b8 q]) u.id=true:=fun u hu=>by rcases zF.1 hu with rfl;exact az (o:=q) hq (.head _)
 have out:∀i,touch (.wr [b8 q]) i=false→(hp { h with t:=t' }).ob i=(hp h).ob i∧((hp { h with t:=t' }).fr i↔(hp h).fr i):=fun i hi=>by
  rw [e];exact bW _ _ i (fun u hu hh=>by rw [hh,hT u hu] at hi;cases hi)
 exact ⟨⟨out,fun i hi=>out i (nh hi)⟩,fun S hA=>by rw [e,dG hT hA];rfl⟩
theorem tA {h:H} {q:Nat} {t':Tr dt} (hq:q<16777216) (ht:t'.get=fun m=>if m=q then none else h.t.get m):i_ h { h with t:=t' } (.wr [b8 q])∧∀S,Agree (.wr [b8 q]) (hp h) S→et (.wr [b8 q]) (hp { h with t:=t' }) S=S.del q:=by
 have e:hp { h with t:=t' }=app [.del q] (hp h):=Hp.ext' (fun i=>by
  show (if i<bS then cY t' i else _)=if i=q then none else (if i<bS then cY h.t i else _)
  unfold cY
  rw [ht]
  by_cases hi:i=q
  ·subst hi;rw [if_pos (show i<bS from hq),if_pos rfl];simp
  ·simp only [if_neg hi]) (fun i=>Iff.rfl)
 have hT:∀u∈[Up.del q],touch (.wr [b8 q]) u.id=true:=fun u hu=>by rcases zF.1 hu with rfl;exact az (o:=q) hq (.head _)
 have out:∀i,touch (.wr [b8 q]) i=false→(hp { h with t:=t' }).ob i=(hp h).ob i∧((hp { h with t:=t' }).fr i↔(hp h).fr i):=fun i hi=>by
  rw [e];exact bW _ _ i (fun u hu hh=>by rw [hh,hT u hu] at hi;cases hi)
 exact ⟨⟨out,fun i hi=>out i (nh hi)⟩,fun S hA=>by rw [e,dG hT hA];rfl⟩
theorem sP {h:H} {x:dt} {t':Tr dt} (hq:h.aL<16777216) (ht:t'.get=fun m=>if m=h.aL then some x else h.t.get m):i_ h { h with t:=t',aL:=h.aL+1 } (.wr [b8 h.aL])∧∀S,Agree (.wr [b8 h.aL]) (hp h) S→et (.wr [b8 h.aL]) (hp { h with t:=t',aL:=h.aL+1 }) S=S.new h.aL x.low:=by
 have e:=xH (h:=h) (x:=x) hq ht
 have hT:∀u∈[Up.new h.aL x.low],touch (.wr [b8 h.aL]) u.id=true:=fun u hu=>by rcases zF.1 hu with rfl;exact az (o:=h.aL) hq (.head _)
 have out:∀i,touch (.wr [b8 h.aL]) i=false→(hp { h with t:=t',aL:=h.aL+1 }).ob i=(hp h).ob i∧((hp { h with t:=t',aL:=h.aL+1 }).fr i↔(hp h).fr i):=fun i hi=>by
  rw [e];exact bW _ _ i (fun u hu hh=>by rw [hh,hT u hu] at hi;cases hi)
 exact ⟨⟨out,fun i hi=>out i (nh hi)⟩,fun S hA=>by rw [e,dG hT hA];rfl⟩
theorem EW {h:H} {q:Nat} {x:dt} (hq:q<16777216) (hx:h.t.get q=some x):(hp h).ob q=some x.low:=by
 show (if q<bS then _ else _)=_
 rw [if_pos (show q<bS from hq)];unfold cY;rw [hx]
theorem tI {h:H} {q:Nat} {S:Hp} {x:dt} {l:List Nat} {w:Bool} {s:List Nat} (hq:q<16777216) (hx:h.t.get q=some x) (hA:Agree ⟨false,l,w,s⟩ (hp h) S) (hm:b8 q∈l):S.ob q=some x.low:=(hA q (az hq hm)).1.trans (EW hq hx)
def xv:Option Code→Option Exit
 | none=>some .normal
 | some .ret=>some .ret
 | some (.exit id)=>some (.exit id)
 | _=>none
def E5:LoopState→Bool
 | .busy=>true
 | _=>false
def KY:Exit→Option (Option Code)
 | .normal=>some none
 | .ret=>some (some .ret)
 | .exit id=>some (some (.exit id))
 | _=>none
def wx:Option Code→LoopState
 | none=>.ready
 | some _=>.done
theorem xu {pe:Option Code} {e:Exit} (h:xv pe=some e):(pe=none∧e = .normal)∨(pe=some .ret∧e = .ret)∨∃id,pe=some (.exit id)∧e = .exit id:=by
 unfold xv at h
 split at h
 ·cases h;exact .inl ⟨rfl,rfl⟩
 ·cases h;exact .inr (.inl ⟨rfl,rfl⟩)
 ·cases h;exact .inr (.inr ⟨_,rfl,rfl⟩)
 ·cases h
def rp:Tr A→List Tmp→List A→(Tr A→Option β)→Option β
 | F,[],[],k=>k F
 | F,t::ts,a::aa,k=>cO F t (some a) (fun F=>rp F ts aa k)
 | _,_,_,_=>none
theorem nv {r:β}:∀(ps:List Tmp) (aa:List A) (F:Tr A) (k:Tr A→Option β),rp F ps aa k=some r→∃F1,k F1=some r∧aa.length=ps.length∧∀(g:G) (n:Nat) (vs:List Value) (tmps:Array Value),aa.length=vs.length→(∀(i:Nat) (p:A) (v:Value),aa[i]?=some p→vs[i]?=some v→V g p v)→tmps.size=n→(∀i,i<n→V g (aP F.get i) (tmps.getD i undef)) →
  ((ps.zip vs).foldl (fun tmps x=>tmps.setIfInBounds x.1 x.2) tmps).size=n∧∀i,i<n→V g (aP F1.get i) (((ps.zip vs).foldl (fun tmps x=>tmps.setIfInBounds x.1 x.2) tmps).getD i undef)
 | [],[],F,k,h=>⟨F,h,rfl,fun g n vs tmps hl hv hs hF=>⟨by simpa using hs,by simpa using hF⟩⟩
 | t::ts,a::aa,F,k,h=>by
  obtain ⟨_,F',k1,k2⟩:=aY h
  obtain ⟨F1,q1,q2,q3⟩:=nv ts aa F' k k1
  refine ⟨F1,q1,by simp [q2],fun g n vs tmps hl hv hs hF=>?_⟩
  cases vs with
  | nil=>simp at hl
  | cons v vs=>
   refine q3 g n vs (tmps.setIfInBounds t v) (by simpa using hl) (fun i p v k1 k2=>hv (i+1) p v (by simpa using k1) (by simpa using k2)) (by simpa using hs) (fun i hi=>?_)
   rw [jP k2]
   by_cases Q6:i=t
   ·subst Q6
    rw [if_pos rfl,show (tmps.setIfInBounds i v).getD i undef=v by simp [Array.getD,show i<tmps.size by omega]]
    exact hv 0 a v rfl rfl
   ·rw [if_neg Q6,show (tmps.setIfInBounds t v).getD i undef=tmps.getD i undef by
     simp only [Array.getD_eq_getD_getElem?]
     rw [Array.getElem?_setIfInBounds_ne (fun h=>Q6 h.symm)]]
    exact hF i hi
 | [],_::_,_,_,h=>by cases h
 | _::_,[],_,_,h=>by cases h
theorem Lo {g:G} {fi ca:List A} {x:A} {fv cv:List Value} {v:Value} (hf:fi.length=fv.length) (h1:∀(i:Nat) (c:A) (x:Value),fi[i]?=some c→fv[i]?=some x→V g c x) (hx:V g x v) (h2:∀(i:Nat) (c:A) (x:Value),ca[i]?=some c→cv[i]?=some x→V g c x) :
  ∀(i:Nat) (p:A) (u:Value),(fi++x::ca)[i]?=some p→(fv++v::cv)[i]?=some u→V g p u:=by
 intro i p u k1 k2
 rcases Nat.lt_trichotomy i fi.length with c1 | c1 | c1
 ·rw [zK c1] at k1
  rw [zK (by omega)] at k2
  exact h1 i p u k1 k2
 ·rw [zJ (by omega)] at k1 k2
  rw [c1,Nat.sub_self] at k1
  rw [c1,hf,Nat.sub_self] at k2
  simp at k1 k2;subst k1 k2;exact hx
 ·rw [zJ (by omega)] at k1 k2
  rw [←hf] at k2
  obtain ⟨d,hd⟩:∃d,i-fi.length=d+1:=⟨i-fi.length-1,by omega⟩
  rw [hd] at k1 k2
  exact h2 d p u (by simpa using k1) (by simpa using k2)
end
end
section
open Go.RowKit
section
variable {P:Program} {E:Env} {cx:Cx} {n:Nat} {β:Type} {r:β}
abbrev KC (β:Type):=Exit→Tr A→H→List Nat→Fp→Option β
def Ep (K1:Tr A→H→List Nat→Fp→Option β) (K:KC β):KC β:=fun e F h ds U=>match e with
 | .normal=>K1 F h ds U
 | e=>K e F h ds U
def TL (id:Nat) (K:KC β):KC β:=fun e F h ds U=>match e with
 | .exit i=>bif Nat.beq i id then K .normal F h ds U else K (.exit i) F h ds U
 | e=>K e F h ds U
def WT (K:KC β):KC β:=fun e F h ds U=>match e with
 | .goto _=>none
 | e=>K e F h ds U
def Gb (n:Nat) (F:Tr A) (c:Operand) (k:Tr A→Bool→Option β):Option β:=match c with
 | .tmp d=>match sM n F (.tmp d) with
  | .v (.bool b)=>br b (cO F d (some (.v (.bool true))) (fun F'=>k F' true)) (cO F d (some (.v (.bool false))) (fun F'=>k F' false))
  | _=>none
 | .const (.bool b)=>k F b
 | _=>none
theorem BB {F:Tr A} {c:Operand} {k:Tr A→Bool→Option β} (h:Gb n F c k=some r):∃F' b,k F' b=some r∧(∀ds S,cS n F' ds S=cS n F ds S)∧sM n F c = .v (.bool b):=by
 unfold Gb at h
 split at h
 ·rename_i d
  split at h
  ·rename_i b hb
   have same:∀(F':Tr A) (c:Bool),b=c→F'.get=(fun m=>if m=d then some (.v (.bool c)) else F.get m)→∀ds S,cS n F' ds S=cS n F ds S:=fun F' c hc e ds S=>by
    have:aP F'.get=aP F.get:=by
     funext i
     by_cases hi:i=d
     ·subst hi
      rw [sL hb (by intro h;cases h),hc]
      unfold aP
      rw [e];simp
     ·unfold aP
      rw [e];simp [hi]
    unfold cS
    rw [this]
   rcases gh h with ⟨rfl,h1⟩ | ⟨rfl,h1⟩
   ·obtain ⟨_,F',k1,k2⟩:=aY h1
    exact ⟨F',true,k1,same F' true rfl k2,hb⟩
   ·obtain ⟨_,F',k1,k2⟩:=aY h1
    exact ⟨F',false,k1,same F' false rfl k2,hb⟩
  ·cases h
 ·rename_i b
  exact ⟨F,b,h,fun ds S=>rfl,rfl⟩
 ·cases h
def gX:aw→List Nat
 | .region _ ops _=>ly ops
 | .seq x y=>gX x++gX y
 | .cut H x y=>(gX x++(H.jr.map (·.1)++H.grow.map (·.1)))++gX y
 | .cond _ x y=>gX x++gX y
 | .block _ x=>gX x
 | .scope x=>gX x
 | .loop H x=>gX x++(H.jr.map (·.1)++H.grow.map (·.1))
 | .FC l x=>l.map (·.1)++gX x
 | _=>[]
def rG {σ:Type} (pj:Tr A→H→List Nat→Fp→Option σ) (k:σ→Option β) (K:KC β):KC β:=fun e F h ds T=>match e with
 | .normal=>(match pj F h ds T with
  | some s=>k s
  | none=>none)
 | e=>K e F h ds T
def vl (U:Fp) (K:KC β):KC β:=fun e F h ds T=>K e F h ds (U.cat T)
abbrev GY (β:Type):=Nat→List Oper→Tr A→H→Fp→(Tr A→H→Fp→Option β)→Option β
def sw (J:LH):Option Nat:=match J.loops with
 | [k]=>bif Nat.ble 1000000 k then some (k-1000000) else none
 | _=>none
def GR:List Oper→Option (Nat×Nat×Nat)
 | [o1,o2]=>match o1.op,o1.dst,o1.guard,o2.op,o2.guard,o2.dst with
  | .move (.tmp s),some a,none,.defer c,none,none=>match c.callee,c.args.toList with
   | .value (.func f),[.tmp b]=>bif Nat.beq a b then some (s,a,f) else none
   | _,_=>none
  | _,_,_,_,_,_=>none
 | _=>none
def Pe {β:Type} (n:Nat) (x:Nat×Nat×Nat) (F:Tr A) (h:H) (ds:List Nat) (U:Fp) (K:Tr A→H→List Nat→Fp→Option β):Option β:=match aP F.get x.1 with
 | .ptr q off=>bif Nat.beq off 0 && Nat.blt q 16777216 && Nat.blt x.1 n && Nat.blt x.2.1 n then cO F x.2.1 (some (.ptr q 0)) (fun F1=>K F1 h ((q+16777216*(x.2.2+1))::ds) U) else none
 | _=>none
def Pa {β:Type} (n:Nat):List (Nat×Ty)→Tr A→H→List Nat→(Tr A→H→List Nat→Option β)→Option β
 | [],F,h,T,k=>k F h T
 | p::l,F,h,T,k=>bif Nat.blt p.1 n then (match ye false p.2 (aP F.get p.1) h with
  | some (v,h',T')=>cO F p.1 (some v) (fun F'=>Pa n l F' h' (T++T') k)
  | none=>none) else none
theorem xZ {β:Type} {n:Nat} {r:β} {k:Tr A→H→List Nat→Option β}:∀(l:List (Nat×Ty)) (F:Tr A) (h:H) (T:List Nat),Pa n l F h T k=some r →
  ∃F' h' T',k F' h' (T++T')=some r∧Kp (l.map (·.1)) F F'∧i_ h h' (Fp.wr T')∧∀S0 g0 w0 ds S2 a w,Agree (Fp.wr T') (hp h) S2→R S0 g0 w0 (cS n F ds S2) a w→R S0 g0 w0 (cS n F' ds (et (Fp.wr T') (hp h') S2)) a w
 | [],F,h,T,hr=>⟨F,h,[],by rw [List.append_nil];exact hr,.refl _ F,⟨fun _ _=>⟨rfl,Iff.rfl⟩,fun _ _=>⟨rfl,Iff.rfl⟩⟩,fun S0 g0 w0 ds S2 a w hA hR=>by
  have:et (Fp.wr []) (hp h) S2=S2:=dG (us:=[]) (fun u hu=>by cases hu) hA
  rw [this];exact hR⟩
 | p::l,F,h,T,hr=>by
  obtain ⟨LI,hr⟩:=ae (show (bif Nat.blt p.1 n then _ else none)=some r from hr)
  have LI:=aQ LI
  split at hr
  ·rename_i v h1 T1 hf
   obtain ⟨_,F1,hr,oJ⟩:=aY hr
   obtain ⟨us,c1,c2,c3⟩:=oT hf
   obtain ⟨F',h',T2,q1,q2,q3,q4⟩:=xZ l F1 h1 (T++T1) hr
   have f1:i_ h h1 (Fp.wr T1):=⟨fun i hi=>by rw [c1];exact bW us _ i (fun u hu e=>by rw [e,c2 u hu] at hi;cases hi),fun i hi=>by
    rw [c1];exact bW us _ i (fun u hu e=>by
     have:=c2 u hu
     rw [←e] at this
     exact absurd hi (by
      unfold touch at this
      unfold wt
      simpa [Fp.wr] using this))⟩
   refine ⟨F',h',T1++T2,by rw [←List.append_assoc];exact q1,?_,f1.trans q3,fun S0 g0 w0 ds S2 a w hA hR=>?_⟩
   ·intro i hi
    have h1:i≠p.1:=fun e=>hi (by rw [e];exact .head _)
    have h2:i∉l.map (·.1):=fun e=>hi (.tail _ e)
    rw [q2 i h2];unfold aP;rw [oJ];simp [h1]
   ·have L5:Agree ((Fp.wr T1).cat (Fp.wr T2)) (hp h) S2:=hA
    have e1:et (Fp.wr T1) (hp h1) S2=app us S2:=by rw [c1];exact dG c2 (by exact L5.left)
    have QS:=da (T:=Fp.wr T1) (S2:=S2) q3
    have uW:=Agree.right f1 L5
    have L3:R S0 g0 w0 (cS n F1 ds (et (Fp.wr T1) (hp h1) S2)) a w:=by
     obtain ⟨g,hI,hx,hd,hs,hv⟩:=hR
     rw [e1]
     obtain ⟨g',k1,k2,k3⟩:=c3 g S2 w _ hI L5.left (hv p.1 LI)
     refine ⟨g',k1,hx.trans k2,hd.mono k2.le,hs,fun i hi=>?_⟩
     show V g' (aP F1.get i) _
     by_cases Wl:i=p.1
     ·subst Wl
      unfold aP;rw [oJ];simpa using k3
     ·have:aP F1.get i=aP F.get i:=by unfold aP;rw [oJ];simp [Wl]
      rw [this];exact (hv i hi).mono k2.le
    have:=q4 S0 g0 w0 ds _ a w uW L3
    rw [QS] at this
    exact this
  ·cases hr
def mI (E:Env) (cx:Cx) (inr:Bool) (n:Nat) (dr:GY β):aw→Tr A→H→List Nat→Fp→KC β→Option β
 | .skip,F,h,ds,U,K=>K .normal F h ds U
 | .ret,F,h,ds,U,K=>K .ret F h ds U
 | .exit id,F,h,ds,U,K=>K (.exit id) F h ds U
 | .bad _,_,_,_,_,_=>none
 | .region id ops d,F,h,ds,U,K=>bif d then dr id ops F h U (fun F h U=>K .normal F h ds U) else match GR ops with
  | some x=>bif inr then none else Pe n x F h ds U (fun F h ds U=>K .normal F h ds U)
  | none=>pO E cx n ops ops F h U (fun F h U=>K .normal F h ds U)
 | .seq x y,F,h,ds,U,K=>mI E cx inr n dr x F h ds U (Ep (fun F h ds U=>mI E cx inr n dr y F h ds U K) K)
 | .cut J x y,F,h,ds,U,K=>match Bv J F h with
  | some e=>bif tu J e ds F h then
    jn (fun k=>mI E cx inr n dr x F h ds .no (rG (vv J n h.aL e.bs e.cs e.qs e.bX ds) k (vl U K)))
     (fun s=>uQ J (gX x++(J.jr.map (·.1)++J.grow.map (·.1))) e.bs e.cs e.bX F h s (fun Fc hc=>mI E cx inr n dr y Fc hc ds .no (vl (U.cat (jT J h.aL e)) K)))
   else none
  | none=>none
 | .cond c x y,F,h,ds,U,K=>Gb n F c (fun F b=>bif b then mI E cx inr n dr x F h ds U K else mI E cx inr n dr y F h ds U K)
 | .block id x,F,h,ds,U,K=>mI E cx inr n dr x F h ds U (TL id K)
 | .scope x,F,h,ds,U,K=>mI E cx inr n dr x F h ds U (WT K)
 | .label _,F,h,ds,U,K=>K .normal F h ds U
 | .FC l x,F,h,ds,U,K=>Pa n l F h [] (fun F h T=>mI E cx inr n dr x F h ds (U.cat (Fp.wr T)) K)
 | .loop J x,F,h,ds,U,K=>match sw J with
  | some m=>Nat.rec (motive:=fun _=>Tr A→H→List Nat→Fp→Option β) (fun _ _ _ _=>none) (fun _ ih F h ds U=>mI E cx inr n dr x F h ds U (Ep ih K)) m F h ds U
  | none=>match Bv J F h with
  | some e=>bif tu J e ds F h then (match vv J n h.aL e.bs e.cs e.qs e.bX ds F h ds .no with
   | some s0=>loop (fun k s=>uQ J (gX x++(J.jr.map (·.1)++J.grow.map (·.1))) e.bs e.cs e.bX F h s (fun Fc hc=>mI E cx inr n dr x Fc hc ds .no (rG (vv J n h.aL e.bs e.cs e.qs e.bX ds) k (vl (U.cat (jT J h.aL e)) K)))) s0
   | none=>none) else none
  | none=>none
 | .range g ps J aa bd,F,h,ds,U,K=>bif inr then none else match sM n F g with
  | .fn f fi ca=>bif Nat.blt h.aL 16777214 then cO h.t h.aL (some (.bV .tx)) (fun t1=>cO t1 (h.aL+1) (some (.bV (.loop .ready none))) (fun t2=>cx.call β f (fi ++ .mU (h.aL+1) n F ps J aa bd::ca) { h with t:=t2,aL:=h.aL+1+1 } (fun _ h3 T3=>match h3.t.get (h.aL+1) with
   | some (.bV (.loop st pe))=>bif E5 st then none else cO h3.t (h.aL+1) none (fun t4=>match xv pe with
    | some e=>K e F { h3 with t:=t4 } (h.aL::ds) (U.cat (((Fp.wr [b8 h.aL]).cat (.wr [b8 (h.aL+1)])).cat (T3.cat (.wr [b8 (h.aL+1)]))))
    | none=>none)
   | _=>none))) else none
  | _=>none
def Does (P:Program) (inr:Bool) (n:Nat) (c:Code) (F:Tr A) (h:H) (ds:List Nat) (e:Exit) (F':Tr A) (h':H) (eN:List Nat) (T:Fp):Prop:=
 i_ h h' T∧∀ro,(inr=false→ro=none)→∀S0 g0 w0,yU F h F' h' n T (fun Q st=>pw P ro S0 g0 w0 c Q st) e ds eN
def vt (P:Program) (n:Nat) (dr:GY β):Prop:=
 ∀id ops F h U K (r:β),dr id ops F h U K=some r→∃F' h' T,K F' h' (U.cat T)=some r∧Kp (ly ops) F F'∧∀inr ds,Does P inr n (.region id ops.toArray true) F h ds .normal F' h' ds T
theorem all_eq {S S2:Hp} {l m:List Nat} {w:Bool} (h:Agree ⟨true,l,w,m⟩ S S2):S2=S:=Hp.ext' (fun i=>(h i rfl).1) (fun i=>(h i rfl).2)
theorem sJ {S S2:Hp} {l m:List Nat} {w:Bool}:et ⟨true,l,w,m⟩ S S2=S:=Hp.ext' (fun i=>by
 show (if touch ⟨true,l,w,m⟩ i=true then S.ob i else S2.ob i)=S.ob i
 rw [if_pos (show touch ⟨true,l,w,m⟩ i=true from rfl)]) (fun i=>by
 show (if touch ⟨true,l,w,m⟩ i=true then S.fr i else S2.fr i)↔S.fr i
 rw [if_pos (show touch ⟨true,l,w,m⟩ i=true from rfl)])
theorem xx (J:LH) (N:Nat) (e:zo) (T:Fp):∃l m w,(jT J N e).cat T=⟨true,l,w,m⟩:=⟨_,_,_,rfl⟩
theorem R.entry {n:Nat} {F:Tr A} {h:H} {ds:List Nat} {S0:Hp} {g0:G} {w0 w:World} {a:Act} (hR:R S0 g0 w0 (cS n F ds (hp h)) a w):(∀i,h.aL≤i→i<bS→cY h.t i=none)∧∀o,h.aL≤o→o<bS→S0.fr o∧g0.bc o=none:=by
 obtain ⟨g,hI,hE,_⟩:=hR
 have hI:Inv g (hp h) w:=hI
 have hE:Ext S0 g0 w0 (hp h) g w:=hE
 have fr:∀o,h.aL≤o→o<bS→(hp h).fr o:=fun o h1 h2=>by show (if o<bS then _ else _);rw [if_pos h2];exact h1
 refine ⟨fun i h1 h2=>?_,fun o h1 h2=>⟨hE.fr o (fr o h1 h2),?_⟩⟩
 ·cases hx:cY h.t i with
  | none=>rfl
  | some x=>
   have cM:(hp h).ob i=some x:=by show (if i<bS then _ else _)=_;rw [if_pos h2];exact hx
   have bo:=hI.fresh i (fr i h1 h2)
   cases x with
   | cells cs=>
    rcases hI.cells i cs cM with ⟨k,_⟩ | ⟨b,t,k,_⟩
    ·rw [bo] at k;cases k
    ·rw [bo] at k;cases k
   | bV x=>
    obtain ⟨b,s,ob,k,_⟩:=hI.bV i x cM
    rw [bo] at k;cases k
 ·have bo:=hI.fresh o (fr o h1 h2)
  cases hx:g0.bc o with
  | none=>rfl
  | some p=>rw [hE.le.bc o p hx] at bo;cases bo
section
variable {J:LH} {gE ds:List Nat} {En:zo} {F:Tr A} {h:H}
theorem rN {s:J.S} {Fc:Tr A} {hc:H} (k:kA J gE En F h s Fc hc) (hv:∀i,i∈J.jr.map (·.1)++J.grow.map (·.1)→i∈gE):Kp gE F Fc:=by
 have aV:∀(l:List (Nat×Bool×Ty)) (x:fL (l.map (·.2))),(∀i∈l.map (·.1),i∈gE)→yL (fun i c=>i∉gE→c=aP F.get i) l x:=fun l=>by
  induction l with
  | nil=>exact fun _ _=>trivial
  | cons p l ih=>exact fun x hh=>⟨fun hn=>absurd (hh p.1 (.head _)) hn,ih x.2 (fun i hi=>hh i (.tail _ hi))⟩
 have aW:∀(l:List (Nat×Ty)) (j:Nat),(∀i∈l.map (·.1),i∈gE)→yK (fun i c=>i∉gE→c=aP F.get i) l j:=fun l=>by
  induction l with
  | nil=>exact fun _ _=>trivial
  | cons p l ih=>exact fun j hh=>⟨fun hn=>absurd (hh p.1 (.head _)) hn,ih (j+1) (fun i hi=>hh i (.tail _ hi))⟩
 exact k.F (fun i c=>i∉gE→c=aP F.get i) (fun i h1 h2=>absurd h1 h2) (fun i _ _=>rfl) (aV _ _ (fun i hi=>hv i (zQ _ hi))) (aW _ _ (fun i hi=>hv i (zS _ hi)))
theorem Ln {n:Nat} {s s':J.S} {Fc GX F1:Tr A} {hc DW h1:H} {ia:List Nat} {T1:Fp} (E:mT J En ds F h) (k:kA J gE En F h s Fc hc) (k':kA J gE En F h s' GX DW) (hv:∀i,i∈J.jr.map (·.1)++J.grow.map (·.1)→i∈gE)
  (Q1:Kp gE Fc F1) (jH:i_ hc h1 T1) (A_:vv J n h.aL En.bs En.cs En.qs En.bX ds F1 h1 ia T1=some s') {S0:Hp} {g0:G} {w0 w:World} {a:Act} (kb:∀i,h.aL≤i→i<bS→cY h.t i=none) (hf:∀o,h.aL≤o→o<bS→S0.fr o∧g0.bc o=none)
  (hR:R S0 g0 w0 (cS n F1 ia (hp h1)) a w):R S0 g0 w0 (cS n GX ds (hp DW)) a w:=by
 obtain ⟨j1,j2,_⟩:=mm E k
 have hw:=A_
 unfold vv at hw
 obtain ⟨vE,_⟩:=ae hw
 rw [zC,zC] at vE
 have QH:=E.top
 exact Dw E kb (fun i hi=>(Q1 i hi).trans (rN k hv i hi)) (fun i hi hn=>(jH.rd i (qF vE.1.1 (by omega) hi hn)).1.trans (j1 i hi (fun h=>hn (by
   rcases zX.1 h with h | h
   ·exact zQ _ h
   ·exact zS _ (zQ _ h)))))
  (fun i hl hk=>by
   have e1:=jH.rd i (qE vE.1.1 hl hk)
   have e2:=j2 i hl hk
   exact ⟨e1.1.trans e2.1,e1.2.trans e2.2⟩) A_ k' hf hR
theorem DZ {n:Nat} {s':J.S} {GX F1:Tr A} {DW h1:H} {ia:List Nat} {T1:Fp} (E:mT J En ds F h) (k':kA J gE En F h s' GX DW)
  (Q1:Kp gE F F1) (jH:i_ h h1 T1) (A_:vv J n h.aL En.bs En.cs En.qs En.bX ds F1 h1 ia T1=some s') {S0:Hp} {g0:G} {w0 w:World} {a:Act} (kb:∀i,h.aL≤i→i<bS→cY h.t i=none) (hf:∀o,h.aL≤o→o<bS→S0.fr o∧g0.bc o=none)
  (hR:R S0 g0 w0 (cS n F1 ia (hp h1)) a w):R S0 g0 w0 (cS n GX ds (hp DW)) a w:=by
 have hw:=A_
 unfold vv at hw
 obtain ⟨vE,_⟩:=ae hw
 rw [zC,zC] at vE
 have QH:=E.top
 exact Dw E kb (fun i hi=>Q1 i hi) (fun i hi hn=>(jH.rd i (qF vE.1.1 (by omega) hi hn)).1) (fun i hl hk=>jH.rd i (qE vE.1.1 hl hk)) A_ k' hf hR
theorem xB {s:J.S} {Fc:Tr A} {hc:H} (E:mT J En ds F h) (k:kA J gE En F h s Fc hc):i_ h hc (jT J h.aL En):=⟨fun i hi=>(by cases hi),(mm E k).2.2⟩
theorem qd {σ:Type} {pj:Tr A→H→List Nat→Fp→Option σ} {k:σ→Option β} {K:KC β} {e:Exit} {T:Fp} (hr:rG pj k K e F h ds T=some r):(e = .normal∧∃s,pj F h ds T=some s∧k s=some r)∨(e≠.normal∧K e F h ds T=some r):=by
 unfold rG at hr
 split at hr
 ·split at hr
  ·rename_i s hs;exact .inl ⟨rfl,s,hs,hr⟩
  ·cases hr
 ·rename_i jk;exact .inr ⟨jk,hr⟩
theorem sR {inr:Bool} {n:Nat} {x:aw} {dr:GY β} {E:Env} {cx:Cx} {K:KC β} {U:Fp} (hx:∀(F:Tr A) (h:H) (ds:List Nat) (U:Fp) (K:KC β),mI E cx inr n dr x F h ds U K=some r→∃e F' h' eN T,K e F' h' eN (U.cat T)=some r∧Kp (gX x) F F'∧Does P inr n x.code F h ds e F' h' eN T)
  (EO:mT J En ds F h) (hv:∀i,i∈J.jr.map (·.1)++J.grow.map (·.1)→i∈gE) (ha:∀i,i∈gX x→i∈gE):∀(m:Nat) (s:J.S),iter (fun k s=>uQ J gE En.bs En.cs En.bX F h s (fun Fc hc=>mI E cx inr n dr x Fc hc ds .no (rG (vv J n h.aL En.bs En.cs En.qs En.bX ds) k (vl (U.cat (jT J h.aL En)) K)))) m s=some r →
  ∃Fc hc,kA J gE En F h s Fc hc∧∃e F' h' eN T,K e F' h' eN (U.cat ((jT J h.aL En).cat T))=some r∧Kp gE F F'∧i_ h h' ((jT J h.aL En).cat T) ∧
   ∀ro,(inr=false→ro=none)→∀S0 g0 w0,(∀i,h.aL≤i→i<bS→cY h.t i=none)→(∀o,h.aL≤o→o<bS→S0.fr o∧g0.bc o=none)→∀Q:Exit→St→Prop,Q e (cS n F' eN (hp h'))→∀a w,R S0 g0 w0 (cS n Fc ds (hp hc)) a w→Code.roundsIn (FR ro) 0 P x.code (lift S0 g0 w0 Q) m a w
 | 0,s,hr=>by cases hr
 | m+1,s,hr=>by
  obtain ⟨Fc,hc,k1,k2⟩:=qf (show uQ J gE En.bs En.cs En.bX F h s (fun Fc hc=>mI E cx inr n dr x Fc hc ds .no (rG (vv J n h.aL En.bs En.cs En.qs En.bX ds) (iter (fun k s=>uQ J gE En.bs En.cs En.bX F h s (fun Fc hc=>mI E cx inr n dr x Fc hc ds .no (rG (vv J n h.aL En.bs En.cs En.qs En.bX ds) k (vl (U.cat (jT J h.aL En)) K)))) m) (vl (U.cat (jT J h.aL En)) K)))=some r from hr)
  obtain ⟨e1,F1,h1,ia,T1,k3,k4,k5,k6⟩:=hx Fc hc ds .no _ k1
  rw [Fp.kP] at k3
  refine ⟨Fc,hc,k2,?_⟩
  rcases qd k3 with ⟨rfl,s',q1,q2⟩ | ⟨jk,q1⟩
  ·obtain ⟨GX,DW,u1,e,F',h',eN,T,u2,u3,u4,u5⟩:=sR hx EO hv ha m s' q2
   refine ⟨e,F',h',eN,T,u2,u3,u4,fun ro fc S0 g0 w0 kb hf Q hq a w hR=>?_⟩
   rw [roundsIn_succ]
   refine wpIn_mono (k6 ro fc S0 g0 w0 (hp hc) Agree.self (fun e st=>e = .normal∧st=cS n F1 ia (hp h1)) ⟨rfl,by rw [lD k5]⟩ a w hR) ?_
   rintro e2 a2 w2 ⟨st,Fy,rfl,rfl⟩
   exact u5 ro fc S0 g0 w0 kb hf Q hq a2 w2 (Ln EO k2 u1 hv (k4.mono ha) k5 q1 kb hf Fy)
  ·refine ⟨e1,F1,h1,ia,T1,by rw [←Fp.eE];exact q1,(rN k2 hv).trans k4 (fun i hi=>hi) ha,(xB EO k2).trans k5,fun ro fc S0 g0 w0 kb hf Q hq a w hR=>?_⟩
   rw [roundsIn_succ]
   refine wpIn_mono (k6 ro fc S0 g0 w0 (hp hc) Agree.self (fun e st=>e=e1∧st=cS n F1 ia (hp h1)) ⟨rfl,by rw [lD k5]⟩ a w hR) ?_
   rintro e2 a2 w2 ⟨st,Fy,rfl,rfl⟩
   have hl:lift S0 g0 w0 Q e2 a2 w2:=⟨_,Fy,hq⟩
   cases e2 with
   | normal=>exact absurd rfl jk
   | _=>exact hl
end
theorem vS {inr:Bool} {n:Nat} {x:aw} {dr:GY β} {E:Env} {cx:Cx} {K:KC β} {r:β} (hx:∀(F:Tr A) (h:H) (ds:List Nat) (U:Fp) (K:KC β),mI E cx inr n dr x F h ds U K=some r→∃e F' h' eN T,K e F' h' eN (U.cat T)=some r∧Kp (gX x) F F'∧Does P inr n x.code F h ds e F' h' eN T) :
  ∀(m:Nat) (F:Tr A) (h:H) (ds:List Nat) (U:Fp),Nat.rec (motive:=fun _=>Tr A→H→List Nat→Fp→Option β) (fun _ _ _ _=>none) (fun _ ih F h ds U=>mI E cx inr n dr x F h ds U (Ep ih K)) m F h ds U=some r →
  ∃e F' h' eN T,K e F' h' eN (U.cat T)=some r∧Kp (gX x) F F'∧i_ h h' T∧∀ro,(inr=false→ro=none)→∀S0 g0 w0 S2,Agree T (hp h) S2→∀Q:Exit→St→Prop,Q e (cS n F' eN (et T (hp h') S2))→∀a w,R S0 g0 w0 (cS n F ds S2) a w→Code.roundsIn (FR ro) 0 P x.code (lift S0 g0 w0 Q) m a w
 | 0,F,h,ds,U,hr=>by cases hr
 | m+1,F,h,ds,U,hr=>by
  obtain ⟨e1,F1,h1,ia,T1,k1,kp,k2,k3⟩:=hx F h ds U _ hr
  by_cases jk:e1 = .normal
  ·subst jk
   obtain ⟨e,F2,h2,qY,T2,q1,qp,q2,q3⟩:=vS hx m F1 h1 ia _ k1
   refine ⟨e,F2,h2,qY,T1.cat T2,by rw [←Fp.eE];exact q1,kp.trans qp (fun i hi=>hi) (fun i hi=>hi),k2.trans q2,fun ro fc S0 g0 w0 S2 hA Q hq a w hR=>?_⟩
   rw [roundsIn_succ]
   refine wpIn_mono (k3 ro fc S0 g0 w0 S2 hA.left (fun e st=>e = .normal∧st=cS n F1 ia (et T1 (hp h1) S2)) ⟨rfl,rfl⟩ a w hR) ?_
   rintro e2 a2 w2 ⟨st,Fy,rfl,rfl⟩
   exact q3 ro fc S0 g0 w0 _ (Agree.right k2 hA) Q (by rw [da q2];exact hq) a2 w2 Fy
  ·have k4:K e1 F1 h1 ia (U.cat T1)=some r:=by
    cases e1 with
    | normal=>exact absurd rfl jk
    | _=>exact k1
   refine ⟨e1,F1,h1,ia,T1,k4,kp,k2,fun ro fc S0 g0 w0 S2 hA Q hq a w hR=>?_⟩
   rw [roundsIn_succ]
   refine wpIn_mono (k3 ro fc S0 g0 w0 S2 hA (fun e st=>e=e1∧st=cS n F1 ia (et T1 (hp h1) S2)) ⟨rfl,rfl⟩ a w hR) ?_
   rintro e2 a2 w2 ⟨st,Fy,rfl,rfl⟩
   have hl:lift S0 g0 w0 Q e2 a2 w2:=⟨_,Fy,hq⟩
   cases e2 with
   | normal=>exact absurd rfl jk
   | _=>exact hl
theorem FV {l:List Oper} {x:Nat×Nat×Nat} (h:GR l=some x):∃o1 o2 c,l=[o1,o2]∧o1.op = .move (.tmp x.1)∧o1.dst=some x.2.1∧o1.guard=none∧o2.op = .defer c∧o2.guard=none∧o2.dst=none∧c.callee = .value (.func x.2.2)∧c.args.toList=[.tmp x.2.1]:=by
 unfold GR at h
 split at h
 ·rename_i o1 o2
  split at h
  ·rename_i s a c e1 e2 e3 e4 e5 e6
   split at h
   ·rename_i f b e7 e8
    obtain ⟨e9,h⟩:=ae h
    have e9:=beq_eq e9
    cases h
    exact ⟨o1,o2,c,rfl,e1,e2,e3,e4,e5,e6,e7,by rw [e8,e9]⟩
   ·cases h
  ·cases h
 ·cases h
theorem FW {P:Program} {n:Nat} (id:Nat) {ops:List Oper} {x:Nat×Nat×Nat} {F:Tr A} {h:H} {ds:List Nat} {U:Fp} {K:Tr A→H→List Nat→Fp→Option β} {r:β} (hd:GR ops=some x) (hr:Pe n x F h ds U K=some r) :
  ∃F' eN,K F' h eN U=some r∧Kp (ly ops) F F'∧∀S0 g0 w0 Q S2,Q .normal (cS n F' eN S2)→pw P none S0 g0 w0 (.region id ops.toArray false) Q (cS n F ds S2):=by
 obtain ⟨s,a,f⟩:=x
 obtain ⟨o1,o2,c,rfl,e1,e2,e3,e4,e5,e6,e7,e8⟩:=FV hd
 simp only at e1 e2 e7 e8
 unfold Pe at hr
 simp only at hr
 split at hr
 ·rename_i q off hs
  obtain ⟨hq,nF⟩:=ae hr
  clear hr
  simp only [zC] at hq
  have h0:=beq_eq hq.1.1.1
  have XC:=aQ hq.1.1.2
  have zi:=aQ hq.1.2
  have Ya:=aQ hq.2
  subst h0
  obtain ⟨_,F1,hr,oJ⟩:=aY nF
  have po:∀S2:Hp,(cS n F ds S2).put (some a) (.ptr q 0)=cS n F1 ds S2:=fun S2=>by
   simp only [St.put,cS]
   congr 1
   funext i
   simp only [aP,oJ]
   by_cases hi:i=a
   ·rw [if_pos hi,if_pos hi]
   ·rw [if_neg hi,if_neg hi]
  refine ⟨F1,_,hr,?_,fun S0 g0 w0 Q S2 hQ=>nx (pQ (pv:=.ptr q 0) (S':=S2) 0 e3 ?_ ?_)⟩
  ·intro i hi
   have hi:i≠a:=fun hh=>hi (by subst hh;simp [ly,e2,e6])
   simp only [aP,oJ,if_neg hi]
  ·have e:(cS n F ds S2).pk 0 (.tmp s) = .ptr q 0:=(show (if s<n then aP F.get s else A.bR)=_ from (if_pos zi).trans hs)
   have:=pX (P:=P) (S:=S2) (ρ:=(cS n F ds S2).pk 0) e1
   rw [e] at this
   exact this.Dz (by rw [e1];intro c e;cases e)
  ·intro act w hR
   rw [e2,po] at hR
   have hR:R S0 g0 w0 (cS n F1 ds S2) act w:=hR
   obtain ⟨g,h0,h1,h2,h3,h4⟩:=hR
   refine wpListIn_plain e5 (fun K hK=>⟨fun _ _=>trivial,?_⟩)
   have hv:=h4 a (show a<n from Ya)
   have hv:V g (aP F1.get a) (act.tmps.getD a undef):=hv
   rw [show aP F1.get a = .ptr q 0 by simp only [aP,oJ,if_pos]] at hv
   have cU:(Oper.semAt (FR none).round act.eval o2).run P w = .ok (.defer (si (q+16777216*(f+1)) (act.tmps.getD a undef))) w:=by
    show (execOp act.eval o2).run P w=_
    have ed:(q+16777216*(f+1)) / 16777216-1=f:=by omega
    obtain ⟨YE,args,Zq⟩:=c
    simp only at e7 e8
    subst e7
    have ea:args = #[.tmp a]:=by apply Array.ext';simpa using e8
    subst ea
    simp [execOp,e4,resolve,si,ed,Act.eval,Deferred.ofValue]
   rw [cU]
   refine hK _ _ ?_
   rw [e6]
   refine ⟨cS n F1 ((q+16777216*(f+1))::ds) S2,⟨g,h0,h1,⟨?_,fun i d e k1 k2=>?_⟩,h3,h4⟩,hQ⟩
   ·have:=h2.1;simp only [cS,Act.put,zR] at this ⊢;omega
   ·cases i with
    | zero=>
     simp [cS,Act.put] at k1 k2
     subst k1 k2
     refine ⟨fun hd=>absurd hd (by omega),fun _=>⟨_,?_,rfl⟩⟩
     rw [show (q+16777216*(f+1))%16777216=q by omega]
     simpa using hv
    | succ i=>exact h2.2 i d e (by simpa [cS] using k1) (by simpa [Act.put] using k2)
 ·cases hr
theorem dV {inr:Bool} {dr:GY β} (hE:bt P E) (hx:gD P cx) (mB:vt P n dr):∀(c:aw) (F:Tr A) (h:H) (ds:List Nat) (U:Fp) (K:KC β),mI E cx inr n dr c F h ds U K=some r →
  ∃e F' h' eN T,K e F' h' eN (U.cat T)=some r∧Kp (gX c) F F'∧Does P inr n c.code F h ds e F' h' eN T
 | .skip,F,h,ds,U,K,hr=>⟨.normal,F,h,ds,.no,by rw [Fp.kW];exact hr,.refl _ F,.refl h,fun ro fc S0 g0 w0 S2 hA Q hq=>by rw [kM] at hq;exact Ae hq⟩
 | .ret,F,h,ds,U,K,hr=>⟨.ret,F,h,ds,.no,by rw [Fp.kW];exact hr,.refl _ F,.refl h,fun ro fc S0 g0 w0 S2 hA Q hq=>by rw [kM] at hq;exact EA hq⟩
 | .exit id,F,h,ds,U,K,hr=>⟨.exit id,F,h,ds,.no,by rw [Fp.kW];exact hr,.refl _ F,.refl h,fun ro fc S0 g0 w0 S2 hA Q hq=>by rw [kM] at hq;exact Af hq⟩
 | .bad _,F,h,ds,U,K,hr=>by cases hr
 | .region id ops d,F,h,ds,U,K,hr=>by
  cases d with
  | true=>
   obtain ⟨F',h',T,k1,kp,k2⟩:=mB id ops F h U _ r hr
   exact ⟨.normal,F',h',ds,T,k1,kp,k2 inr ds⟩
  | false=>
   have hr:(match GR ops with
    | some x=>bif inr then none else Pe n x F h ds U (fun F h ds U=>K .normal F h ds U)
    | none=>pO E cx n ops ops F h U (fun F h U=>K .normal F h ds U))=some r:=hr
   cases Re:GR ops with
   | some x=>
    rw [Re] at hr
    cases inr with
    | true=>cases hr
    | false=>
     obtain ⟨F',eN,k1,kp,k3⟩:=FW (P:=P) id Re hr
     exact ⟨.normal,F',h,eN,.no,by rw [Fp.kW];exact k1,kp,.refl h,fun ro fc S0 g0 w0 S2 hA Q hq=>by
      rw [kM] at hq
      obtain rfl:=fc rfl
      exact k3 S0 g0 w0 Q S2 hq⟩
   | none=>
   rw [Re] at hr
   obtain ⟨F',h',T,k1,kp,k2,k3⟩:=n5 hE hx ops F h U _ hr
   exact ⟨.normal,F',h',ds,T,k1,kp,k2,fun ro fc S0 g0 w0 S2 hA Q hq=>nx (k3 ro S0 g0 w0 ds S2 hA Q hq)⟩
 | .seq x y,F,h,ds,U,K,hr=>by
  obtain ⟨e,F1,h1,ia,T1,k1,kp,k2,k3⟩:=dV hE hx mB x F h ds U _ hr
  cases e with
  | normal=>
   obtain ⟨e,F2,h2,qY,T2,q1,qp,q2,q3⟩:=dV hE hx mB y F1 h1 ia _ K k1
   refine ⟨e,F2,h2,qY,T1.cat T2,by rw [←Fp.eE];exact q1,kp.trans qp (fun i hi=>zQ _ hi) (fun i hi=>zS _ hi),k2.trans q2,fun ro fc S0 g0 w0 S2 hA Q hq=>?_⟩
   refine n8 (k3 ro fc S0 g0 w0 S2 hA.left _ ?_)
   refine q3 ro fc S0 g0 w0 _ (Agree.right k2 hA) Q ?_
   rw [da q2];exact hq
  | _=>exact ⟨_,F1,h1,ia,T1,k1,kp.mono (fun i hi=>zQ _ hi),k2,fun ro fc S0 g0 w0 S2 hA Q hq=>n8 (k3 ro fc S0 g0 w0 S2 hA _ hq)⟩
 | .cut J x y,F,h,ds,U,K,hr=>by
  have hr:(match Bv J F h with | some e=>_ | none=>none)=some r:=hr
  split at hr
  ·rename_i En LZ
   obtain ⟨ho,hr⟩:=ae hr
   have EO:=qz ho
   have hv:∀i,i∈J.jr.map (·.1)++J.grow.map (·.1)→i∈gX x++(J.jr.map (·.1)++J.grow.map (·.1)):=fun i hi=>zS _ hi
   obtain ⟨e1,F1,h1,ia,T1,k1,kp,k2,k3⟩:=dV hE hx mB x F h ds .no _ (show mI E cx inr n dr x F h ds .no _=some r from (DJ _ _).symm.trans hr)
   rw [Fp.kP] at k1
   rcases qd k1 with ⟨rfl,s,q1,q2⟩ | ⟨jk,q1⟩
   ·obtain ⟨Fc,hc,u1,u2⟩:=qf q2
    obtain ⟨e,F2,h2,qY,T2,u3,u4,u5,u6⟩:=dV hE hx mB y Fc hc ds .no _ u1
    rw [Fp.kP] at u3
    have u3:K e F2 h2 qY ((U.cat (jT J h.aL En)).cat T2)=some r:=u3
    refine ⟨e,F2,h2,qY,(jT J h.aL En).cat T2,by rw [←Fp.eE];exact u3,(rN u2 hv).trans u4 (fun i hi=>zQ _ hi) (fun i hi=>zS _ hi),(xB EO u2).trans u5,fun ro fc S0 g0 w0 S2 hA Q hq=>?_⟩
    obtain ⟨l,m,w,ej⟩:=xx J h.aL En T2
    rw [ej] at hA hq
    rw [sJ] at hq
    rw [all_eq hA]
    intro a w hR
    obtain ⟨kb,hf⟩:=hR.entry
    refine n8 (k3 ro fc S0 g0 w0 (hp h) Agree.self _ ?_) a w hR
    rw [lD k2]
    intro a1 w1 L3
    refine u6 ro fc S0 g0 w0 (hp hc) Agree.self Q ?_ a1 w1 (DZ EO u2 (kp.mono (fun i hi=>zQ _ hi)) k2 q1 kb hf L3)
    rw [lD u5];exact hq
   ·refine ⟨e1,F1,h1,ia,T1,q1,kp.mono (fun i hi=>zQ _ (zQ _ hi)),k2,fun ro fc S0 g0 w0 S2 hA Q hq=>n8 (k3 ro fc S0 g0 w0 S2 hA _ ?_)⟩
    cases e1 with
    | normal=>exact absurd rfl jk
    | _=>exact hq
  ·cases hr
 | .cond c x y,F,h,ds,U,K,hr=>by
  obtain ⟨F1,b,k1,k2,k3⟩:=BB hr
  cases b with
  | true=>
   obtain ⟨e,F2,h2,qY,T2,q1,qp,q2,q3⟩:=dV hE hx mB x F1 h ds U K k1
   refine ⟨e,F2,h2,qY,T2,q1,(Kp.of (l:=[]) k2).trans qp (fun i hi=>by cases hi) (fun i hi=>zQ _ hi),q2,fun ro fc S0 g0 w0 S2 hA Q hq=>?_⟩
   refine sG (b:=true) (by rw [←kN];exact k3) (fun _=>?_) (fun h=>by cases h)
   rw [←k2]
   exact q3 ro fc S0 g0 w0 S2 hA Q hq
  | false=>
   obtain ⟨e,F2,h2,qY,T2,q1,qp,q2,q3⟩:=dV hE hx mB y F1 h ds U K k1
   refine ⟨e,F2,h2,qY,T2,q1,(Kp.of (l:=[]) k2).trans qp (fun i hi=>by cases hi) (fun i hi=>zS _ hi),q2,fun ro fc S0 g0 w0 S2 hA Q hq=>?_⟩
   refine sG (b:=false) (by rw [←kN];exact k3) (fun h=>by cases h) (fun _=>?_)
   rw [←k2]
   exact q3 ro fc S0 g0 w0 S2 hA Q hq
 | .block id x,F,h,ds,U,K,hr=>by
  obtain ⟨e,F1,h1,ia,T1,k1,kp,k2,k3⟩:=dV hE hx mB x F h ds U _ hr
  cases e with
  | exit i=>
   have kk:(bif Nat.beq i id then K .normal F1 h1 ia (U.cat T1) else K (.exit i) F1 h1 ia (U.cat T1))=some r:=k1
   cases hb:Nat.beq i id with
   | true=>
    rw [hb] at kk
    obtain rfl:=beq_eq hb
    refine ⟨.normal,F1,h1,ia,T1,kk,kp,k2,fun ro fc S0 g0 w0 S2 hA Q hq=>l9 (k3 ro fc S0 g0 w0 S2 hA _ ?_)⟩
    show (if i=i then Q .normal _ else _)
    rw [if_pos rfl];exact hq
   | false=>
    rw [hb] at kk
    refine ⟨.exit i,F1,h1,ia,T1,kk,kp,k2,fun ro fc S0 g0 w0 S2 hA Q hq=>l9 (k3 ro fc S0 g0 w0 S2 hA _ ?_)⟩
    show (if i=id then _ else Q (.exit i) _)
    rw [if_neg (fun e=>by rw [e,Nat.beq_refl] at hb;cases hb)];exact hq
  | _=>exact ⟨_,F1,h1,ia,T1,k1,kp,k2,fun ro fc S0 g0 w0 S2 hA Q hq=>l9 (k3 ro fc S0 g0 w0 S2 hA _ hq)⟩
 | .scope x,F,h,ds,U,K,hr=>by
  obtain ⟨e,F1,h1,ia,T1,k1,kp,k2,k3⟩:=dV hE hx mB x F h ds U _ hr
  cases e with
  | goto l=>cases k1
  | _=>exact ⟨_,F1,h1,ia,T1,k1,kp,k2,fun ro fc S0 g0 w0 S2 hA Q hq=>wE (k3 ro fc S0 g0 w0 S2 hA _ hq)⟩
 | .label l,F,h,ds,U,K,hr=>⟨.normal,F,h,ds,.no,by rw [Fp.kW];exact hr,.refl _ F,.refl h,fun ro fc S0 g0 w0 S2 hA Q hq=>by rw [kM] at hq;exact wF hq⟩
 | .FC l x,F,h,ds,U,K,hr=>by
  obtain ⟨F1,h1,T1,k1,k2,k3,k4⟩:=xZ l F h [] (show Pa n l F h [] _=some r from hr)
  obtain ⟨e,F2,h2,qY,T2,q1,qp,q2,q3⟩:=dV hE hx mB x F1 h1 ds _ K k1
  refine ⟨e,F2,h2,qY,(Fp.wr T1).cat T2,by rw [←Fp.eE];exact q1,k2.trans qp (fun i hi=>zQ _ hi) (fun i hi=>zS _ hi),k3.trans q2,fun ro fc S0 g0 w0 S2 hA Q hq a w hR=>?_⟩
  refine q3 ro fc S0 g0 w0 _ (Agree.right k3 hA) Q (by rw [da q2];exact hq) a w (k4 S0 g0 w0 ds S2 a w hA.left hR)
 | .loop J x,F,h,ds,U,K,hr=>by
  have hr:(match sw J with | some m=>_ | none=>(match Bv J F h with | some e=>_ | none=>none))=some r:=hr
  split at hr
  ·rename_i m _
   obtain ⟨e,F',h',eN,T,u2,u3,u4,u5⟩:=vS (P:=P) (fun F h ds U K hr=>dV hE hx mB x F h ds U K hr) m F h ds U hr
   exact ⟨e,F',h',eN,T,u2,u3.mono (fun i hi=>zQ _ hi),u4,fun ro fc S0 g0 w0 S2 hA Q hq a w hR=>wpIn_loop_rounds m (u5 ro fc S0 g0 w0 S2 hA Q hq a w hR)⟩
  split at hr
  ·rename_i En LZ
   obtain ⟨ho,hr⟩:=ae hr
   split at hr
   ·rename_i s0 Xx
    have EO:=qz ho
    have hv:∀i,i∈J.jr.map (·.1)++J.grow.map (·.1)→i∈gX x++(J.jr.map (·.1)++J.grow.map (·.1)):=fun i hi=>zS _ hi
    obtain ⟨Fc,hc,u1,e,F',h',eN,T,u2,u3,u4,u5⟩:=sR (P:=P) (fun F h ds U K hr=>dV hE hx mB x F h ds U K hr) EO hv (fun i hi=>zQ _ hi) Oh s0 ((sT _ _).symm.trans hr)
    refine ⟨e,F',h',eN,_,u2,u3,u4,fun ro fc S0 g0 w0 S2 hA Q hq=>?_⟩
    obtain ⟨l,m,w,ej⟩:=xx J h.aL En T
    rw [ej] at hA hq
    rw [sJ] at hq
    rw [all_eq hA]
    intro a w hR
    obtain ⟨kb,hf⟩:=hR.entry
    exact wpIn_loop_rounds Oh (u5 ro fc S0 g0 w0 kb hf Q hq a w (DZ (T1:=.no) EO u1 (.refl _ F) (.refl h) Xx kb hf hR))
   ·cases hr
  ·cases hr
 | .range g ps J aa bd,F,h,ds,U,K,hr=>by
  have hr:(bif inr then none else _)=some r:=hr
  obtain ⟨Q7,hr⟩:=eP hr
  split at hr
  ·rename_i f fi ca hf
   obtain ⟨hn,hr⟩:=ae hr
   have hn:=aQ hn
   obtain ⟨_,t1,hr,QJ⟩:=aY hr
   obtain ⟨_,t2,hr,QI⟩:=aY hr
   obtain ⟨pv,h3,T3,hr,k2⟩:=hx.call β f _ _ _ r hr
   split at hr
   ·rename_i st pe Yk
    obtain ⟨hb,hr⟩:=eP hr
    obtain ⟨_,t4,hr,Xu⟩:=aY hr
    split at hr
    ·rename_i e hj
     obtain ⟨f1,v1⟩:=sP (h:=h) (x:=.bV .tx) (by omega) QJ
     obtain ⟨f2,v2⟩:=sP (h:={ h with t:=t1,aL:=h.aL+1 }) (x:=.bV (.loop .ready none)) (show h.aL+1<16777216 by omega) QI
     have f3:i_ { h with t:=t2,aL:=h.aL+1+1 } h3 T3:=⟨k2.out,k2.rd⟩
     obtain ⟨f4,v4⟩:=tA (h:=h3) (q:=h.aL+1) (by omega) Xu
     have f12:=f1.trans f2
     have f34:=f3.trans f4
     refine ⟨e,F,{ h3 with t:=t4 },h.aL::ds,_,hr,.refl _ F,f12.trans f34,fun ro fc S0 g0 w0 S2 hA Q hq=>?_⟩
     obtain rfl:=fc Q7
     have xT:=hA.left
     have rW:=Agree.right f12 hA
     rw [←da f34,←da f4] at hq
     rw [←da f2] at rW hq
     have A1:=xT.left
     have A2:=Agree.right f1 xT
     have A3:=rW.left
     have A4:=Agree.right f3 rW
     have Bg:S2.fr h.aL:=(A1 h.aL (az (o:=h.aL) (by omega) (.head _))).2.2 (by show (if h.aL<bS then h.aL≤h.aL else _);rw [if_pos (show h.aL<bS by unfold bS;omega)];exact Nat.le_refl _)
     have LS:(et (.wr [b8 h.aL]) (hp { h with t:=t1,aL:=h.aL+1 }) S2).fr (h.aL+1):=(A2 (h.aL+1) (az (o:=h.aL+1) (by omega) (.head _))).2.2 (by show (if h.aL+1<bS then h.aL+1≤h.aL+1 else _);rw [if_pos (show h.aL+1<bS by unfold bS;omega)];exact Nat.le_refl _)
     have qi:=tI (x:=.bV (.loop st pe)) (by omega) Yk A4 (.head _)
     rw [v2 _ A2] at A3 A4 qi hq
     rw [v4 _ A4] at hq
     rw [v1 _ A1] at LS A3 A4 qi hq
     rintro a w ⟨gg,hI,Xo,hd,hs,hv⟩
     have hI:Inv gg S2 w:=hI
     have hs:a.tmps.size=n:=hs
     refine wpIn_rangeFunc (fun fn _=>?_)
     obtain ⟨i1,x1⟩:=hI.alloc (s:=(0,0)) Bg (x:=.bV .tx) (ob:=.deferred (some [])) ⟨_,heap_alloc_new w _,rfl⟩
     have q1:=bG (g:=gg) (o:=h.aL) (p:=(some w.heap.size,(0,0)))
     generalize fa gg h.aL (some w.heap.size,(0,0))=g1 at i1 x1 q1
     obtain ⟨rr,DN⟩:∃rr:Loop,rr={ state:=.ready,pending:=none,fn,tmps:=a.tmps,params:=ps.toArray,assign:=aa.code,body:=bd.code,defers:=w.heap.size }:=⟨_,rfl⟩
     obtain ⟨g2,i2,x2,q2,l2⟩:=i1.Li LS rr
     have j7:(w.alloc (.deferred (some []))).heap.size=w.heap.size+1:=Array.size_push _
     rw [j7] at q2 l2
     have hu:=qK (st:=cS n F ds S2) hs hv 0 g
     rw [←kN,hf] at hu
     generalize XU:a.eval g=u at hu
     cases hu with
     | fn _ _ _ fv cv Ft O8 h1 h2=>
     obtain ⟨w1,QA⟩:∃w1,w1=(w.alloc (.deferred (some []))).alloc (.loop rr):=⟨_,rfl⟩
     rw [←QA] at i2 x2
     rw [show rr.state = .ready by rw [DN],show rr.pending=none by rw [DN]] at i2 x2
     refine ⟨w.heap.size+1,[{ target:=.collected w.heap.size,args:=#[] }],w1,{ target:=.fn (.func f) cv,args:=fv ++ #[.func (.yield (w.heap.size+1)) #[] #[]] },w1,f,(fv.toList ++ .func (.yield (w.heap.size+1)) #[] #[]::cv.toList).toArray,w1,?_,?_,fun f' _=>trivial,?_,fun h=>by simp [FR,Fence.wide] at h,mO ?_⟩
     ·rw [QA,DN];exact run_enterLoop_outer fn a.tmps ps.toArray aa.code bd.code
     ·simp only [resolve,XU,Deferred.ofValue,Sem.run_pure]
      congr 3
      simp [Act.eval]
     ·have h2:=k2.fn.run ((fv.toList ++ .func (.yield (w.heap.size+1)) #[] #[]::cv.toList).toArray) w1
      simp only [invoke]
      rw [show fv ++ #[.func (.yield (w.heap.size+1)) #[] #[]]++cv=(fv.toList ++ .func (.yield (w.heap.size+1)) #[] #[]::cv.toList).toArray by apply Array.ext';simp]
      exact h2
     ·have hle:=x1.le.trans x2.le
      refine (k2.ok _ A3 g2 w1 (fv.toList ++ .func (.yield (w.heap.size+1)) #[] #[]::cv.toList) i2 (by simp [Ft,O8]) (Lo (by simp [Ft]) (fun i c x e1 e2=>(h1 i c x e1 (by simpa using e2)).mono hle)
       (.mU _ n F ps J aa bd _ _ _ q2 l2 (by rw [DN];rfl) (by rw [DN];rfl) (by rw [DN];rfl) (by rw [DN];exact hs) (fun i hi=>by rw [DN];exact (hv i hi).mono hle)) (fun i c x e1 e2=>(h2 i c x e1 (by simpa using e2)).mono hle))).mono ?_
      rintro e1 w3 ⟨v,g3,rfl,_,i3,x3⟩
      obtain ⟨b3,s3,W9,k1,kD,k3⟩:=i3.bV (h.aL+1) _ qi
      have Wr:=x3.le.bc _ _ q2
      rw [k1] at Wr
      obtain ⟨rfl,rfl⟩:b3=w.heap.size+1∧s3=(0,0):=by simpa using Wr
      obtain ⟨r3,rfl,r1,r2⟩:=k3
      have rT:=run_endLoop (P:=P) kD (by rw [r1];intro hh;rw [hh] at hb;cases hb)
      obtain ⟨i4,x4⟩:=i3.wc (st':=.exhausted) (pe':=r3.pending) qi k1 kD
      have qk:∀(S:Hp) o ob,(S.del (h.aL+1)).ob o=some ob→(S.set (h.aL+1) (.bV (.loop .exhausted r3.pending))).ob o=some ob:=fun S o ob e=>by
       have e:(if o=h.aL+1 then none else S.ob o)=some ob:=e
       show (if o=h.aL+1 then _ else S.ob o)=some ob
       by_cases ho:o=h.aL+1
       ·rw [if_pos ho] at e;cases e
       ·rw [if_neg ho] at e;rw [if_neg ho];exact e
      have i4:=i4.less (qk _) (fun _ e=>e)
      have x4:=x4.trans (Ext.less (qk _) (fun _ e=>e))
      have uR:=((x1.trans (QA▸x2)).trans x3).trans x4
      have hR:∀S5,Inv g3 S5 (w3.putObj (w.heap.size+1) (.loop { r3 with state:=.exhausted,pending:=r3.pending }))→Ext S2 gg w S5 g3 (w3.putObj (w.heap.size+1) (.loop { r3 with state:=.exhausted,pending:=r3.pending }))→R S0 g0 w0 (cS n F (h.aL::ds) S5) { a with defers:=[{ target:=.collected w.heap.size,args:=#[] }]++a.defers } (w3.putObj (w.heap.size+1) (.loop { r3 with state:=.exhausted,pending:=r3.pending })):=by
       intro S5 i4 uR
       refine ⟨g3,i4,Xo.trans uR,⟨by have:=hd.1;simp [cS] at this ⊢;exact this,fun i d el e1 e2=>?_⟩,hs,fun i hi=>(hv i hi).mono uR.le⟩
       cases i with
       | zero=>
        simp [cS] at e1 e2;subst e1 e2
        exact ⟨fun _=>⟨w.heap.size,(0,0),(x2.le.trans x3.le).bc _ _ q1,rfl⟩,fun hd=>absurd hd (by omega)⟩
       | succ i=>exact (hd.mono uR.le).2 i d el (by simpa [cS] using e1) (by simpa using e2)
      have hR:=hR _ i4 uR
      have rT:(Instr.endLoop (w.heap.size+1)).run P w3 = .ok r3.pending (w3.putObj (w.heap.size+1) (.loop { r3 with state:=.exhausted,pending:=r3.pending })):=rT
      generalize w3.putObj (w.heap.size+1) (.loop { r3 with state:=.exhausted,pending:=r3.pending })=w4 at hR rT
      refine ⟨r3.pending,_,rT,?_⟩
      rw [r2]
      rcases xu hj with ⟨h5,h6⟩ | ⟨h5,h6⟩ | ⟨id,h5,h6⟩
      ·rw [h6] at hq;rw [h5];exact ⟨_,hR,hq⟩
      ·rw [h6] at hq;rw [h5];exact wpIn_ret ⟨_,hR,hq⟩
      ·rw [h6] at hq;rw [h5];exact wpIn_exit ⟨_,hR,hq⟩
    ·cases hr
   ·cases hr
  ·cases hr
end
end
section
open Go.RowKit
abbrev Ed:=(β:Type)→GY β
def nP:Nat→List A→Option (Tr A)
 | _,[]=>some .nil
 | i,p::ps=>match nP (i+1) ps with
  | some F=>GP p (fun p=>cO F i (some p) some)
  | none=>none
def mZ {β:Type} (E:Env) (n:Nat) (F:Tr A) (h:H):List ResultVar→(List A→List Nat→Option β)→Option β
 | [],k=>k [] []
 | .tmp i::r,k=>bif Nat.blt i n then mZ E n F h r (fun ps l=>k (aP F.get i::ps) l) else none
 | .cell a T::r,k=>bif Nat.blt a n then E0 E T (aP F.get a) h (fun v _ T1=>mZ E n F h r (fun ps l=>k (v::ps) (T1.rs++l))) else none
def qB {β:Type}:Tr dt→List Nat→(Tr dt→Option β)→Option β
 | t,[],k=>k t
 | t,d::ds,k=>match t.get d with
  | some (.bV .tx)=>bif Nat.blt d 16777216 then cO t d none (fun t=>qB t ds k) else none
  | _=>none
def sY:Exit→Bool
 | .normal=>true
 | .ret=>true
 | _=>false
abbrev FT:=Nat→Option (Func×aw)
structure aK (P:Program) (f:Nat) (fn:Func) (x:aw):Prop where
 bc:P.funcs[f]?=some fn
 body:fn.body=some x.code
 name : (fn.name == "runtime.NumGoroutine") = false
def qO (P:Program) (fns:FT):Prop:=∀f fn x,fns f=some (fn,x)→aK P f fn x
def FU (E:Env) (fns:FT) (dr:Cx→Nat→Ed) (cx:Cx) {β:Type} (fn:Func) (F:Tr A) (h:H) (ds:List Nat) (U:Fp) (K:A→H→Fp→Option β):Option β:=match ds with
 | []=>mZ E fn.ntmps F h fn.results.toList (fun ps l=>K (rz ps) h (U.cat (.rd l)))
 | [d]=>bif Nat.ble 16777216 d then (match fns (d / 16777216-1) with
  | some (gn,x)=>match nP 0 [.ptr (d%16777216) 0],fn.results.toList,gn.results.toList with
   | some G,[],[]=>bif Nat.ble 1 gn.ntmps then mI E cx false gn.ntmps (dr cx gn.ntmps β) x G h [] U (fun e _ h' eN U'=>bif sY e && eN.isEmpty then K (rz []) h' U' else none) else none
   | _,_,_=>none
  | none=>none) else qB h.t [d] (fun t'=>mZ E fn.ntmps F { h with t:=t' } fn.results.toList (fun ps l=>K (rz ps) { h with t:=t' } ((U.cat (.wr ([d].map b8))).cat (.rd l))))
 | ds=>qB h.t ds (fun t'=>mZ E fn.ntmps F { h with t:=t' } fn.results.toList (fun ps l=>K (rz ps) { h with t:=t' } ((U.cat (.wr (ds.map b8))).cat (.rd l))))
def Rz (E:Env) (fns:FT) (dr:Cx→Nat→Ed) (cx:Cx) (β:Type) (f:FuncId) (aa:List A) (h:H) (K:A→H→Fp→Option β):Option β:=match fns f with
 | some (fn,x)=>match nP 0 aa with
  | some F=>bif Nat.ble aa.length fn.ntmps then mI E cx false fn.ntmps (dr cx fn.ntmps β) x F h [] .no (fun e F' h' ds U=>bif sY e then FU E fns dr cx fn F' h' ds U K else none) else none
  | none=>none
 | none=>none
def Eu (E:Env) (dr:Cx→Nat→Ed) (cx:Cx) (β:Type) (y:A) (aa:List A) (h:H) (K:A→H→Fp→Option β):Option β:=match y with
 | .mU q n F ps _ gE bd=>match h.t.get q with
  | some (.bV (.loop .ready _))=>bif Nat.blt q 16777216 then rp F ps aa (fun F1=>mI E cx true n (dr cx n β) gE F1 h [] .no (fun e1 Fa ha ia T1=>match e1 with
   | .normal=>match ha.t.get q with
    | some (.bV (.loop .ready pe))=>cO ha.t q (some (.bV (.loop .busy pe))) (fun t2=>mI E cx true n (dr cx n β) bd Fa { ha with t:=t2 } ia .no (fun e2 _ hb _ T2=>match hb.t.get q,KY e2 with
     | some (.bV (.loop _ _)),some jump=>cO hb.t q (some (.bV (.loop (wx jump) jump))) (fun t3=>K (.v (.bool jump.isNone)) { hb with t:=t3 } ((T1.cat (.wr [b8 q])).cat (T2.cat (.wr [b8 q]))))
     | _,_=>none))
    | _=>none
   | _=>none)) else none
  | _=>none
 | _=>none
def rh (E:Env) (fns:FT) (dr:Cx→Nat→Ed) (hm:List (Nat×Nat)) (cx:Cx):Cx:=⟨Rz E fns dr cx,hm,Eu E dr cx⟩
def vL (hm:List (Nat×Nat)):Cx:=⟨fun _ _ _ _ _=>none,hm,fun _ _ _ _ _=>none⟩
section
variable {P:Program} {E:Env} {n:Nat}
theorem qI:∀(aa:List A) (i:Nat) (F:Tr A),nP i aa=some F→∀j,aP F.get j=if i≤j then aa.getD (j-i) .un else .un
 | [],i,F,h,j=>by
  cases h
  simp [aP,Tr.get_nil]
 | p::ps,i,F,h,j=>by
  simp only [nP] at h
  split at h
  ·rename_i F1 h1
   have ih:=qI ps (i+1) F1 h1 j
   rw [sd] at h
   obtain ⟨_,F2,hF,hg⟩:=aY h
   cases hF
   have e:aP F.get j=if j=i then p else aP F1.get j:=by
    simp only [aP,hg]
    by_cases hj:j=i
    ·rw [if_pos hj,if_pos hj]
    ·rw [if_neg hj,if_neg hj]
   rw [e,ih]
   by_cases hj:j=i
   ·subst hj;simp
   ·rw [if_neg hj]
    by_cases hk:i≤j
    ·rw [if_pos hk,if_pos (by omega),show j-i=(j-(i+1))+1 by omega,List.getD_cons_succ]
    ·rw [if_neg hk,if_neg (by omega)]
  ·cases h
theorem xk {P:Program} {T:Nat} {u v:Value} {ad:Addr} {w w':World} {a:Act} {o:Oper} (ho:o.op = .load T (.const u)) (hu:u = .pointer (some ad)) (h:(execOp a.eval o).run P w = .ok (.value v) w'):(loadVar T ad).run P w = .ok v w':=by
 simp only [execOp,ho,Act.eval,hu,Instr.loadAt,Instr.sureAddr,pure_bind] at h
 simp only [Sem.run_bind] at h
 generalize (loadVar T ad).run P w=res at h
 cases res with
 | ok x w1=>
  simp only [Result.andThen_ok,Sem.run_pure,Result.ok.injEq,Next.value.injEq] at h
  obtain ⟨rfl,rfl⟩:=h
  rfl
 | halt x w1=>cases h
theorem AS {β:Type} {E:Env} {T:Nat} {px:A} {h:H} {K:A→H→Fp→Option β} {r:β} (hr:E0 E T px h K=some r) {g:G} {u:Value} (hv:V g px u):∃ad,u = .pointer (some ad):=by
 unfold E0 at hr
 split at hr
 ·split at hr
  ·cases hv;exact ⟨_,rfl⟩
  ·cases hv;exact ⟨_,rfl⟩
  ·cases hv;exact ⟨_,rfl⟩
  ·cases hr
 ·cases hr
theorem lB {β:Type} {r:β} (hE:bt P E) {F:Tr A} {h:H}:∀(Gy:List ResultVar) (k:List A→List Nat→Option β),mZ E n F h Gy k=some r →
  ∃ps l,k ps l=some r∧∀S2,Agree (.rd l) (hp h) S2→∀(g:G) (w:World) (tmps:Array Value),Inv g S2 w→(∀i,i<n→V g (aP F.get i) (tmps.getD i undef)) →
   ∃vs:List Value,(Gy.mapM (fun rv=>pL rv tmps)).run P w = .ok vs w∧ps.length=vs.length∧∀(i:Nat) (p:A) (v:Value),ps[i]?=some p→vs[i]?=some v→V g p v
 | [],k,hk=>⟨[],[],hk,fun S2 _ g w tmps _ _=>⟨[],rfl,rfl,by simp⟩⟩
 | .tmp i::Gy,k,hk=>by
  simp only [mZ] at hk
  obtain ⟨hi,hk⟩:=ae hk
  obtain ⟨ps,l,k1,k2⟩:=lB hE Gy _ hk
  refine ⟨_,l,k1,fun S2 hA g w tmps hI hv=>?_⟩
  obtain ⟨vs,q1,q2,q3⟩:=k2 S2 hA g w tmps hI hv
  refine ⟨tmps.getD i undef::vs,?_,by simp [q2],fun k q x e1 e2=>?_⟩
  ·have:(pL (.tmp i) tmps).run P w = .ok (tmps.getD i undef) w:=rfl
   rw [List.mapM_cons]
   simp only [Sem.run_bind,this,Result.andThen_ok]
   rw [q1]
   simp only [Result.andThen_ok,Sem.run_pure]
  ·cases k with
   | zero=>
    simp only [List.getElem?_cons_zero,zI] at e1 e2
    subst e1 e2
    exact hv i (aQ hi)
   | succ k=>exact q3 k q x (by simpa using e1) (by simpa using e2)
 | .cell a T::Gy,k,hk=>by
  simp only [mZ] at hk
  obtain ⟨hi,hk⟩:=ae hk
  obtain ⟨v,l1,k0,kv⟩:=xl hE hk
  obtain ⟨ps,l,k1,k2⟩:=lB hE Gy _ k0
  refine ⟨_,_,k1,fun S2 hA g w tmps hI hv=>?_⟩
  have hA:Agree (.rd (l1++l)) (hp h) S2:=hA
  obtain ⟨vs,q1,q2,q3⟩:=k2 S2 (hA.mono fun i hi=>zS _ hi) g w tmps hI hv
  have Wa:=hv a (aQ hi)
  obtain ⟨ad,Ws⟩:=AS hk Wa
  obtain ⟨x, u1, u2⟩ := kv S2 (hA.mono fun i hi => zQ _ hi) { dst := none, op := .load T (.const (tmps.getD a undef)), type := 0, pos := "", after := #[], guard := none } (fun _ => aP F.get a) (.const (tmps.getD a undef)) rfl rfl g w { tmps := #[], defers := [] } hI (fun y hy => by
   simp only [Op.operands,Array.mem_singleton] at hy
   subst hy;exact Wa)
  have cU:(pL (.cell a T) tmps).run P w = .ok x w:=by
   have:=xk rfl Ws u1
   show (do loadVar T (←asAddr (tmps.getD a undef)):Sem Value).run P w=_
   rw [Ws]
   exact this
  refine ⟨x::vs,?_,by simp [q2],fun k q y e1 e2=>?_⟩
  ·rw [List.mapM_cons]
   simp only [Sem.run_bind,cU,Result.andThen_ok]
   rw [q1]
   simp only [Result.andThen_ok,Sem.run_pure]
  ·cases k with
   | zero=>
    simp only [List.getElem?_cons_zero,zI] at e1 e2
    subst e1 e2
    exact u2
   | succ k=>exact q3 k q y (by simpa using e1) (by simpa using e2)
theorem Inv.drop {g:G} {S:Hp} {w:World} (h:Inv g S w) {d b:Nat} {s:Nat×Nat} (ho:S.ob d=some (.bV .tx)) (hg:g.bc d=some (some b,s)) :
  w.heap[b]?=some (.deferred (some []))∧Inv g (S.del d) (w.putObj b (.deferred none))∧Ext S g w (S.del d) g (w.putObj b (.deferred none)):=by
 obtain ⟨b1,s1,ob,k1,k2,k3⟩:=h.bV d _ ho
 rw [hg] at k1
 obtain ⟨rfl,rfl⟩:b=b1∧s=s1:=by simpa using k1
 have k3:ob = .deferred (some []):=k3
 subst k3
 have fY:∀{i x},(S.del d).ob i=some x→i≠d∧S.ob i=some x:=fun {i x} e=>by
  have e:(if i=d then none else S.ob i)=some x:=e
  split at e
  ·cases e
  ·exact ⟨by assumption,e⟩
 have xJ:∀k,k≠b→(w.putObj b (.deferred none)).heap[k]?=w.heap[k]?:=fun k jk=>World.putObj_heap_other jk
 refine ⟨k2,⟨fun i cs e=>?_,fun i x e=>?_,fun i e=>h.fresh i e,fun i b' s' e=>by rw [World.putObj_size];exact h.lt i b' s' e,fun i j x y b1 s1 s2 e1 e2=>h.inj i j _ _ b1 s1 s2 (fY e1).2 (fY e2).2,fun b' i x e=>?_,fun i b' s' j x e k=>h.gw i b' s' j _ (fY e).2 k,fun b' l e=>?_⟩,
  ⟨.refl g,rfl,rfl,rfl,by rw [World.putObj_size];exact Nat.le_refl _,fun k _ hn=>xJ k (fun hh=>hn ⟨d,s,_,ho,by rw [hh];exact hg⟩),fun k ⟨i,s',x,e1,e2⟩=>.inl ⟨i,s',x,(fY e1).2,e2⟩,fun _ _ e=>.inl e,fun _ e=>e,fun _ _ _ e=>.inl e,fun _ _ e=>.inl e⟩⟩
 ·obtain ⟨jk,e⟩:=fY e
  refine (h.cells i cs e).imp id fun ⟨b1,t,q1,cur,ty,q2,q3⟩=>⟨b1,t,q1,cur,ty,?_,q3⟩
  rw [xJ b1 (fun hb=>by subst hb;rw [k2] at q2;cases q2)];exact q2
 ·obtain ⟨jk,e⟩:=fY e
  obtain ⟨b1,s1,o1,q1,q2,q3⟩:=h.bV i x e
  exact ⟨b1,s1,o1,q1,by rw [xJ b1 (fun hb=>by subst hb;exact jk (h.inj i d _ _ b1 s1 s e ho q1 hg))];exact q2,q3⟩
 ·obtain ⟨cur,ty,fz,q1,q2⟩:=h.mem b' i x e
  exact ⟨cur,ty,fz,by rw [xJ b' (fun hb=>by subst hb;rw [k2] at q1;cases q1)];exact q1,q2⟩
 ·obtain ⟨r,q1,q2⟩:=h.lp b' l e
  exact ⟨r,by rw [xJ b' (fun hb=>by subst hb;rw [k2] at q1;cases q1)];exact q1,q2⟩
theorem qA {β:Type} {r:β} {h:H}:∀(ds:List Nat) (t:Tr dt) (k:Tr dt→Option β),qB t ds k=some r→∃t',k t'=some r∧i_ { h with t:=t } { h with t:=t' } (.wr (ds.map b8)) ∧
  ∀(fn:Func) (tmps:Array Value) (Rr:Ending→World→Prop) S2,Agree (.wr (ds.map b8)) (hp { h with t:=t }) S2→∀(g:G) (w:World) (l:List Deferred),Inv g S2 w→jq g ds l →
   (∀w',Inv g (et (.wr (ds.map b8)) (hp { h with t:=t' }) S2) w'→Ext S2 g w (et (.wr (ds.map b8)) (hp { h with t:=t' }) S2) g w'→∃v,(results fn tmps).run P w' = .ok v w'∧Rr (.returned v) w')→LeavesInM (FR none) 0 P fn tmps Rr l .returning w
 | [],t,k,hk=>⟨t,hk,⟨fun _ _=>⟨rfl,Iff.rfl⟩,fun _ _=>⟨rfl,Iff.rfl⟩⟩,fun fn tmps Rr S2 hA g w l hI hd K=>by
  obtain rfl:l=[]:=List.length_eq_zero_iff.1 (by have:=hd.1;simpa using this.symm)
  have e:et (.wr (List.map b8 [])) (hp { h with t:=t }) S2=S2:=ik hA
  rw [e] at K
  exact K w hI (.refl _ g w)⟩
 | d::ds,t,k,hk=>by
  have hk:(match t.get d with | some (.bV .tx)=>_ | _=>none)=some r:=hk
  split at hk
  ·rename_i cM
   obtain ⟨LY,hk⟩:=ae hk
   have LY:=aQ LY
   obtain ⟨_,t1,k1,QJ⟩:=aY hk
   obtain ⟨t',q1,q2,q3⟩:=qA (h:=h) ds t1 k k1
   obtain ⟨f1,v1⟩:=tA (h:={ h with t:=t }) LY QJ
   have ec:(Fp.wr [b8 d]).cat (.wr (ds.map b8)) = .wr ((d::ds).map b8):=rfl
   have f1:i_ { h with t:=t } { h with t:=t1 } (.wr [b8 d]):=f1
   refine ⟨t',q1,ec▸f1.trans q2,fun fn tmps Rr S2 hA g w l hI hd K=>?_⟩
   rw [←ec] at hA K
   rw [←da q2] at K
   have A1:=hA.left
   have A2:=Agree.right f1 hA
   have v1:=v1 S2 A1
   have v1:et (.wr [b8 d]) (hp { h with t:=t1 }) S2=S2.del d:=v1
   rw [v1] at A2 K
   cases l with
   | nil=>have:=hd.1;simp at this
   | cons el l=>
    obtain ⟨b,s,hg,rfl⟩:=(hd.2 0 d el rfl rfl).1 LY
    obtain ⟨u1,u2,u3⟩:=hI.drop (tI (x:=.bV .tx) LY cM A1 (.head _)) hg
    refine ⟨by simp,.inl ⟨b,_,rfl,run_takeDeferred u1,?_⟩⟩
    exact q3 fn tmps Rr _ A2 g _ l u2 ⟨by have:=hd.1;simpa using this,fun i d el e1 e2=>hd.2 (i+1) d el (by simpa using e1) (by simpa using e2)⟩ (fun w' z1 z2=>K w' z1 (u3.trans z2))
  ·cases hk
theorem Oi {g:G} {aa:List A} {vs:List Value} {F:Tr A} {N:Nat} (Ru:nP 0 aa=some F) (hl:aa.length=vs.length) (hn:aa.length≤N) (hv:∀(i:Nat) (p:A) (v:Value),aa[i]?=some p→vs[i]?=some v→V g p v) {S2:Hp} {w:World} (hI:Inv g S2 w) :
  R S2 g w (cS N F [] S2) { tmps:=vs.toArray++Array.replicate (N-vs.toArray.size) undef,defers:=[] } w:=by
 have j7:(vs.toArray++Array.replicate (N-vs.toArray.size) undef).size=N:=by simp;omega
 refine ⟨g,hI,.refl _ g w,⟨rfl,fun i d el e1=>by simp [cS] at e1⟩,j7,fun i hi=>?_⟩
 show V g (aP F.get i) ((vs.toArray++Array.replicate (N-vs.toArray.size) undef).getD i undef)
 rw [qI aa 0 F Ru i,if_pos (Nat.zero_le i),Nat.sub_zero,Array.getD_eq_getD_getElem?]
 by_cases XS:i<aa.length
 ·rw [Array.getElem?_append_left (by simp;omega)]
  have h1:aa[i]?=some aa[i]:=zD XS
  have h2 : vs[i]? = some (vs[i]'(by omega)) := zD (by omega)
  have:=hv i _ _ h1 h2
  simpa [List.getD,h1,h2] using this
 ·rw [Array.getElem?_append_right (by simp;omega)]
  have h1:aa[i]?=none:=zb (by omega)
  have h2:(Array.replicate (N-vs.toArray.size) undef)[i-vs.toArray.size]?.getD undef=undef:=by
   cases hx:(Array.replicate (N-vs.toArray.size) undef)[i-vs.toArray.size]? with
   | none=>rfl
   | some x=>
    obtain ⟨du,mn⟩:=Array.getElem?_eq_some_iff.1 hx
    rw [←mn];simp
  rw [h2]
  simp only [List.getD,h1,Option.getD_none]
  exact .un
structure yX (P:Program) (fn:Func) (F:Tr A) (h:H) (ds:List Nat) (h':H) (T:Fp) (pv:A):Prop where
 fr:i_ h h' T
 ok:∀S2,Agree T (hp h) S2→∀(g:G) (w:World) (a:Act),Inv g S2 w→jq g ds a.defers→(∀i,i<fn.ntmps→V g (aP F.get i) (a.tmps.getD i undef)) →
  LeavesInM (FR none) 0 P fn a.tmps (fun e w2=>∃v g',e = .returned v∧V g' pv v∧Inv g' (et T (hp h') S2) w2∧Ext S2 g w (et T (hp h') S2) g' w2) a.defers .returning w
theorem ym (hE:bt P E) {β:Type} {fn:Func} {F':Tr A} {h':H} {eN:List Nat} {U:Fp} {K:A→H→Fp→Option β} {r:β}
  (k1:qB h'.t eN (fun t'=>mZ E fn.ntmps F' { h' with t:=t' } fn.results.toList (fun ps l=>K (rz ps) { h' with t:=t' } ((U.cat (.wr (eN.map b8))).cat (.rd l))))=some r) :
  ∃pv h2 T,K pv h2 (U.cat T)=some r∧yX P fn F' h' eN h2 T pv:=by
 obtain ⟨t',k5,k6,k7⟩:=qA (P:=P) (h:=h') eN h'.t _ k1
 obtain ⟨ps,l,k8,k9⟩:=lB (P:=P) hE _ _ k5
 have f3:i_ { h' with t:=t' } { h' with t:=t' } (.rd l):=⟨fun _ _=>⟨rfl,Iff.rfl⟩,fun _ _=>⟨rfl,Iff.rfl⟩⟩
 have k6:i_ h' { h' with t:=t' } (.wr (eN.map b8)):=k6
 refine ⟨_,_,(Fp.wr (eN.map b8)).cat (.rd l),by rw [←Fp.eE];exact k8,k6.trans f3,fun S2 hA g w a hI hd hv=>?_⟩
 have A2:Agree (.wr (eN.map b8)) (hp h') S2:=hA.left
 have A3:=Agree.right k6 hA
 rw [←da f3,ik A3]
 refine k7 fn a.tmps _ _ A2 g w a.defers hI hd (fun w2 i2 x2=>?_)
 obtain ⟨us,u1,u2,u3⟩:=k9 _ A3 g w2 a.tmps i2 hv
 have cU:=fP (P:=P) (fn:=fn) u1
 refine ⟨_,cU,_,g,rfl,?_,i2,x2⟩
 match ps,us,u2,u3 with
 | [p],[u],_,u3=>exact u3 0 p u rfl rfl
 | [],[],_,_=>exact .eJ [] #[] rfl (by simp)
 | p::q::ps,u::v::us,u2,u3=>
  rw [dif_neg (by simp)]
  exact .eJ _ _ (by simpa using u2) (fun i c x e1 e2=>u3 i c x e1 (by simpa using e2))
theorem FQ (hE:bt P E) {β:Type} {fn:Func} {F':Tr A} {h':H} {U:Fp} {K:A→H→Fp→Option β} {r:β}
  (k1:mZ E fn.ntmps F' h' fn.results.toList (fun ps l=>K (rz ps) h' (U.cat (.rd l)))=some r) :
  ∃pv h2 T,K pv h2 (U.cat T)=some r∧yX P fn F' h' [] h2 T pv:=by
 obtain ⟨ps,l,k8,k9⟩:=lB (P:=P) hE _ _ k1
 have f3:i_ h' h' (.rd l):=⟨fun _ _=>⟨rfl,Iff.rfl⟩,fun _ _=>⟨rfl,Iff.rfl⟩⟩
 refine ⟨_,_,.rd l,k8,f3,fun S2 hA g w a hI hd hv=>?_⟩
 rw [ik hA]
 have nH:a.defers=[]:=List.length_eq_zero_iff.1 (by have:=hd.1;simpa using this.symm)
 rw [nH]
 obtain ⟨us,u1,u2,u3⟩:=k9 _ hA g w a.tmps hI hv
 have cU:=fP (P:=P) (fn:=fn) u1
 refine ⟨_,cU,_,g,rfl,?_,hI,.refl _ g w⟩
 match ps,us,u2,u3 with
 | [p],[u],_,u3=>exact u3 0 p u rfl rfl
 | [],[],_,_=>exact .eJ [] #[] rfl (by simp)
 | p::q::ps,u::v::us,u2,u3=>
  rw [dif_neg (by simp)]
  exact .eJ _ _ (by simpa using u2) (fun i c x e1 e2=>u3 i c x e1 (by simpa using e2))
theorem Bw (hE:bt P E) {fns:FT} (hF:qO P fns) {dr:Cx→Nat→Ed} {cx:Cx} (hx:gD P cx) (mB:∀n β,vt P n (dr cx n β)) {β:Type} {fn:Func} {F':Tr A} {h':H} {eN:List Nat} {U:Fp} {K:A→H→Fp→Option β} {r:β}
  (k1:FU E fns dr cx fn F' h' eN U K=some r):∃pv h2 T,K pv h2 (U.cat T)=some r∧yX P fn F' h' eN h2 T pv:=by
 unfold FU at k1
 split at k1
 ·exact FQ hE k1
 ·rename_i d
  cases hb:Nat.ble 16777216 d with
  | false=>rw [hb] at k1;exact ym hE k1
  | true=>
   rw [hb] at k1
   have hb:=Nat.le_of_ble_eq_true hb
   simp only [cond_true] at k1
   split at k1
   ·rename_i gn x hg
    have LR:=hF _ gn x hg
    split at k1
    ·rename_i Gt Ye nF A8
     obtain ⟨hn,k1⟩:=ae k1
     have hn:=Nat.le_of_ble_eq_true hn
     obtain ⟨e,F2,h2,qY,T,k2,_,k3,k4⟩:=dV hE hx (mB gn.ntmps β) x Gt h' [] _ _ k1
     obtain ⟨k5,k6⟩:=ae k2
     clear k2
     simp only [zC] at k5
     obtain rfl:qY=[]:=by simpa using k5.2
     refine ⟨_,_,T,k6,k3,fun S2 hA g w a hI hd hv=>?_⟩
     match XZ:a.defers,hd with
     | [el],hd=>
      obtain ⟨v,v1,v2⟩:=(hd.2 0 d el rfl rfl).2 hb
      subst v2
      refine ⟨by simp,.inr ⟨fun h=>by simp [FR,Fence.wide] at h,.func (d / 16777216-1),#[],d / 16777216-1,#[v],rfl,?_,fun _ _=>trivial,?_⟩⟩
      ·have Ra:pf P (d / 16777216-1):=⟨gn,LR.bc,LR.name,by rw [LR.body];rfl⟩
       show (callFunc (d / 16777216-1) (#[v] ++ #[])).run P w=_
       exact Ra.run _ w
      ·refine CallsDIn.mono (callsDIn_of_wp (R:=fun e w2=>e = .returned (.tuple #[])∧∃g',Inv g' (et T (hp h2) S2) w2∧Ext S2 g w (et T (hp h2) S2) g' w2) LR.bc LR.body trivial ?_) ?_
       ·have d0:=k4 none (fun _=>rfl) S2 g w S2 hA (fun e1 st=>e1=e∧st=cS gn.ntmps F2 [] (et T (hp h2) S2)) ⟨rfl,rfl⟩
        have Rs:=Oi (g:=g) (vs:=[v]) Ye rfl (by simpa using hn) (fun i p u e1 e2=>by
         cases i with
         | zero=>cases e1;cases e2;exact v1
         | succ i=>cases e1) hI
        refine wpIn_mono (d0 _ w Rs) ?_
        rintro e1 a2 w2 ⟨st,hR,rfl,rfl⟩
        obtain ⟨g1,i1,x1,d1,s1,_⟩:=hR
        have nH:a2.defers=[]:=List.length_eq_zero_iff.1 (by have:=d1.1;simpa [cS] using this.symm)
        have A7:(results gn a2.tmps).run P w2 = .ok (.tuple #[]) w2:=by
         have:=fP (P:=P) (fn:=gn) (tmps:=a2.tmps) (vs:=[]) (w:=w2) (by rw [A8];rfl)
         exact this
        cases e1 with
        | normal=>exact ⟨nH,_,A7,rfl,g1,i1,x1⟩
        | ret=>exact ⟨nH,_,A7,rfl,g1,i1,x1⟩
        | _=>exact absurd k5.1 (by simp [sY])
       ·rintro e1 u' w2 ⟨rfl,rfl,g',i1,x1⟩
        have A7:(results fn a.tmps).run P w2 = .ok (.tuple #[]) w2:=by
         have:=fP (P:=P) (fn:=fn) (tmps:=a.tmps) (vs:=[]) (w:=w2) (by rw [nF];rfl)
         exact this
        exact ⟨_,A7,_,g',rfl,.eJ [] #[] rfl (by simp),i1,x1⟩
     | [],hd=>exact absurd hd.1 (by simp)
     | _::_::_,hd=>exact absurd hd.1 (by simp)
    ·cases k1
   ·cases k1
 ·exact ym hE k1
theorem eh {F:Fence} {n:Nat} {fn:Func} {tmps:Array Value} {R R':Ending→World→Prop} (hr:∀e w,R e w→R' e w):∀(ds:List Deferred) (u:FrameMode) (w:World),LeavesInM F n P fn tmps R ds u w→LeavesInM F n P fn tmps R' ds u w
 | [],u,w,h=>by
  cases u with
  | run=>exact h
  | returning=>obtain ⟨v,h1,h2⟩:=h;exact ⟨v,h1,hr _ _ h2⟩
  | panicking c=>exact hr _ _ h
 | d::ds,u,w,h=>by
  obtain ⟨h0,h⟩:=h
  refine ⟨h0,?_⟩
  rcases h with ⟨r,w',h1,h2,h3⟩ | ⟨h1,fv,cap,f,args,h2,h3,h4,h5⟩
  ·exact .inl ⟨r,w',h1,h2,eh hr ds u w' h3⟩
  ·refine .inr ⟨h1,fv,cap,f,args,h2,h3,h4,h5.mono ?_⟩
   intro e u' w' he
   cases e with
   | returned v=>exact eh hr ds _ _ he
   | panicked c=>exact eh hr ds _ _ he
   | outgrown=>exact hr _ _ he
theorem FD (hE:bt P E) {fns:FT} (hF:qO P fns) {dr:Cx→Nat→Ed} {cx:Cx} (hx:gD P cx) (mB:∀n β,vt P n (dr cx n β)) {β:Type} {f:FuncId} {aa:List A} {h:H} {K:A→H→Fp→Option β} {r:β} (hr:Rz E fns dr cx β f aa h K=some r) :
  ∃pv h' T,K pv h' T=some r∧nR P f aa h h' T pv:=by
 unfold Rz at hr
 split at hr
 ·rename_i fn x hf
  have Bf:=hF f fn x hf
  split at hr
  ·rename_i F Ru
   obtain ⟨hn,hr⟩:=ae hr
   have hn:=Nat.le_of_ble_eq_true hn
   obtain ⟨e,F',h',eN,T0,k1,_,k2,k3⟩:=dV hE hx (mB fn.ntmps β) x F h [] .no _ hr
   rw [Fp.kP] at k1
   obtain ⟨k4,k1⟩:=ae k1
   obtain ⟨pv,h2,T,k8,k6,k7⟩:=Bw (P:=P) hE hF hx mB k1
   have f12:i_ h h2 (T0.cat T):=k2.trans k6
   refine ⟨_,_,_,k8,f12.out,f12.rd,⟨fn,Bf.bc,Bf.name,by rw [Bf.body];rfl⟩,fun S2 hA g w vs hI hl hv=>?_⟩
   have A1:=hA.left
   have A2:Agree T (hp h') _:=Agree.right k2 hA
   rw [←da k6]
   have d:=k3 none (fun _=>rfl) S2 g w S2 A1 (fun e1 st=>e1=e∧st=cS fn.ntmps F' eN (et T0 (hp h') S2)) ⟨rfl,rfl⟩
   refine (callsIn_wide (n:=0)).1 (callsIn_of_wp_marks (F:=FR none) Bf.bc Bf.body trivial ?_)
   refine wpIn_mono (d _ w (Oi Ru hl hn hv hI)) ?_
   rintro e1 a w' ⟨st,hR,rfl,rfl⟩
   obtain ⟨g1,i1,x1,d1,s1,v1⟩:=hR
   have key:LeavesInM (FR none) 0 P fn a.tmps (fun e w2=>∃v g',e = .returned v∧V g' pv v∧Inv g' (et T (hp h2) (et T0 (hp h') S2)) w2∧Ext S2 g w (et T (hp h2) (et T0 (hp h') S2)) g' w2) a.defers .returning w':=by
    refine eh ?_ _ _ _ (k7 _ A2 g1 w' a i1 d1 v1)
    rintro e w2 ⟨v,g',q1,q2,q3,q4⟩
    exact ⟨v,g',q1,q2,q3,x1.trans q4⟩
   cases e1 with
   | normal=>exact key
   | ret=>exact key
   | _=>exact absurd k4 (by simp [sY])
  ·cases hr
 ·cases hr
theorem z_ (hE:bt P E) {dr:Cx→Nat→Ed} {cx:Cx} (hx:gD P cx) (mB:∀n β,vt P n (dr cx n β)) {β:Type} {y:A} {aa:List A} {h:H} {K:A→H→Fp→Option β} {r:β} (hr:Eu E dr cx β y aa h K=some r) :
  ∃pv h' T,K pv h' T=some r∧Eb P y aa h h' T pv:=by
 unfold Eu at hr
 split at hr
 ·rename_i q n F ps j gE bd
  split at hr
  ·rename_i WZ XC
   obtain ⟨hq,hr⟩:=ae hr
   have hq:=aQ hq
   obtain ⟨F1,hr,hlen,oJ⟩:=nv _ _ _ _ hr
   obtain ⟨e1,Fa,ha,ia,T1,hr,_,f1,d1⟩:=dV hE hx (mB n β) gE F1 h [] .no _ hr
   rw [Fp.kP] at hr
   split at hr
   ·split at hr
    ·rename_i pe XA
     obtain ⟨_,t2,hr,QI⟩:=aY hr
     obtain ⟨e2,Fb,hb,qY,T2,hr,_,f3,d2⟩:=dV hE hx (mB n β) bd Fa _ ia .no _ hr
     rw [Fp.kP] at hr
     split at hr
     ·rename_i WS WY jump Xz hj
      obtain ⟨_,t3,hr,Xv⟩:=aY hr
      obtain ⟨f2,v2⟩:=sB (h:=ha) hq QI
      obtain ⟨f4,v4⟩:=sB (h:=hb) hq Xv
      have f12:=f1.trans f2
      have f34:=f3.trans f4
      have ft:=f12.trans f34
      refine ⟨_,_,_,hr,ft.out,ft.rd,fun S2 hA g w u vs hI hu hl hv=>?_⟩
      have xT:=hA.left
      have rW:=Agree.right f12 hA
      rw [←da f34,←da f4]
      rw [←da f2] at rW ⊢
      have A1:=xT.left
      have A2:=Agree.right f1 xT
      have A3:=rW.left
      have A4:=Agree.right f3 rW
      have ct:=tI (x:=.bV (.loop .ready pe)) hq XA A2 (.head _)
      have qi:=tI (x:=.bV (.loop WS WY)) hq Xz A4 (.head _)
      have Ba:S2.ob q=some (.bV (.loop .ready WZ))∨True:=.inr trivial
      rw [v4 _ A4]
      rw [v2 _ A2] at A3 A4 qi ⊢
      cases hu with
      | mU _ _ _ _ _ _ _ b s lp h0 Be h1 h2 h3 h4 h5=>
      obtain ⟨rr,r1,r2⟩:=hI.lp b lp Be
      subst r2
      refine ⟨b,rr,rfl,r1,?_,?_⟩
      ·rw [←hl,hlen,←h1];simp [oz]
      have NC:(rr.params.zip vs.toArray).foldl (fun tmps (t,a)=>tmps.setIfInBounds t a) rr.tmps=(ps.zip vs).foldl (fun tmps x=>tmps.setIfInBounds x.1 x.2) rr.tmps:=by
       rw [←Array.foldl_toList,Array.toList_zip,←h1];rfl
      rw [NC]
      obtain ⟨z1,z2⟩:=oJ g n vs rr.tmps hl hv h4 h5
      generalize (ps.zip vs).foldl (fun tmps x=>tmps.setIfInBounds x.1 x.2) rr.tmps=T at z1 z2
      have h2:rr.assign=gE.code:=h2
      have h3:rr.body=bd.code:=h3
      rw [h2,h3]
      refine roundIn_of_wpIn trivial ?_
      show gE.code.wpIn (FR (some b)) 0 P _ _ _
      have Rs:R S2 g w (cS n F1 [] S2) { tmps:=T,defers:=[] } w:=⟨g,hI,.refl _ g w,⟨rfl,fun i d el e1=>by simp [cS] at e1⟩,z1,z2⟩
      refine wpIn_mono (d1 (some b) (fun h=>by cases h) S2 g w S2 A1 (fun e st=>e = .normal∧st=cS n Fa ia (et T1 (hp ha) S2)) ⟨rfl,rfl⟩ _ w Rs) ?_
      rintro e1 a1 w1 ⟨st,L3,rfl,rfl⟩
      obtain ⟨g1,i1,x1,Rf,GF,zh⟩:=L3
      have i1:Inv g1 (et T1 (hp ha) S2) w1:=i1
      obtain ⟨b1,s1,ZC,q1,q2,q3⟩:=i1.bV q _ ct
      have L2:=x1.le.bc _ _ h0
      rw [q1] at L2
      obtain ⟨rfl,rfl⟩:b1=b∧s1=s:=by simpa using L2
      obtain ⟨Qa,rfl,u1,u2⟩:=q3
      obtain ⟨i2,x2⟩:=i1.wc (st':=.busy) (pe':=Qa.pending) ct q1 q2
      rw [u2] at i2 x2
      refine ⟨_,run_beginRound q2 u1,?_⟩
      show bd.code.wpIn (FR (some b1)) 0 P _ _ _
      have eb:({ Qa with state:=.busy }:Loop)={ Qa with state:=.busy,pending:=pe }:=by rw [←u2]
      rw [eb]
      refine wpIn_mono (d2 (some b1) (fun h=>by cases h) S2 g w _ A3 (fun e st=>e=e2∧st=cS n Fb qY (et T2 (hp hb) ((et T1 (hp ha) S2).set q (.bV (.loop .busy pe))))) ⟨rfl,rfl⟩ a1 _ ⟨g1,i2,x1.trans x2,Rf,GF,zh⟩) ?_
      rintro ND a2 w3 ⟨st,Yc,rfl,rfl⟩
      obtain ⟨g3,i3,x3,_,_,_⟩:=Yc
      obtain ⟨b3,s3,W9,p1,p2,p3⟩:=i3.bV q _ qi
      have L1:=x3.le.bc _ _ h0
      rw [p1] at L1
      obtain ⟨rfl,rfl⟩:b3=b1∧s3=s1:=by simpa using L1
      obtain ⟨ZB,rfl,Zp,Zo⟩:=p3
      have fin:∀jc:Option Code,KY ND=some jc→∃v w4,(Instr.endRound b3 jc).run P w3 = .ok v w4∧∃v' g',Ending.returned v = .returned v'∧V g' (.v (.bool jump.isNone)) v'∧Inv g' ((et T2 (hp hb) ((et T1 (hp ha) S2).set q (.bV (.loop .busy pe)))).set q (dt.bV (.loop (wx jump) jump)).low) w4∧Ext S2 g w ((et T2 (hp hb) ((et T1 (hp ha) S2).set q (.bV (.loop .busy pe)))).set q (dt.bV (.loop (wx jump) jump)).low) g' w4:=by
       intro jc Wk
       rw [hj] at Wk
       obtain rfl:=Option.some.inj Wk
       have rT:=run_endRound (P:=P) jump p2
       have Yt:(if jump.isNone=true then LoopState.ready else LoopState.done)=wx jump:=by cases jump<;>rfl
       rw [Yt] at rT
       obtain ⟨i4,x4⟩:=i3.wc (st':=wx jump) (pe':=jump) qi p1 p2
       exact ⟨_,_,rT,_,g3,rfl,.v _,i4,x3.trans x4⟩
      cases ND with
      | normal=>exact fin none rfl
      | ret=>exact fin _ rfl
      | exit id=>exact fin _ rfl
      | goto l=>cases hj
      | panic c=>cases hj
      | outgrown=>cases hj
     ·cases hr
    ·cases hr
   ·cases hr
  ·cases hr
 ·cases hr
theorem nu (hE:bt P E) {fns:FT} (hF:qO P fns) {dr:Cx→Nat→Ed} {hm:List (Nat×Nat)} {cx:Cx} (hx:gD P cx) (mB:∀n β,vt P n (dr cx n β)):gD P (rh E fns dr hm cx):=
 ⟨fun _ _ _ _ _ _ h=>FD hE hF hx mB h,fun _ _ _ _ _ _ h=>z_ hE hx mB h⟩
theorem tK (hm:List (Nat×Nat)):gD P (vL hm):=⟨fun _ _ _ _ _ r h=>(by have h:(none:Option _)=some r:=h;cases h),fun _ _ _ _ _ r h=>(by have h:(none:Option _)=some r:=h;cases h)⟩
end
end
section
open Go.RowKit
def cf (T U:Fp):Bool:=(T.w || U.w) && (T.all || U.all || T.rs.any fun a=>U.rs.any (Nat.beq a))
def Ew (ops:Array Oper):Nat→Nat→Nat→Bool
 | 0,_,_=>false
 | f+1,i,j=>dep ops i j || (List.range i).any fun m=>dep ops i m && Ew ops f m j
theorem l7 {ops:Array Oper} {L:Nat→Bool} (hd:∀k j,L k=true→dep ops k j=true→L j=true):∀(f k j:Nat),L k=true→Ew ops f k j=true→L j=true
 | 0,_,_,_,h=>by cases h
 | f+1,k,j,hk,h=>by
  simp only [Ew,Bool.or_eq_true,List.any_eq_true,zC] at h
  rcases h with h | ⟨m,_,h1,h2⟩
  ·exact hd k j hk h
  ·exact l7 hd f m j (hd k m hk h1) h2
theorem Ab {ops:Array Oper} {L:Nat→Bool} {i:Nat} (h:zp ops i L):∀(f j:Nat),Ew ops f i j=true→L j=true
 | 0,_,h=>by cases h
 | f+1,j,hr=>by
  simp only [Ew,Bool.or_eq_true,List.any_eq_true,zC] at hr
  rcases hr with hr | ⟨m,_,h1,h2⟩
  ·exact h.By j hr
  ·exact l7 h.down f m j (h.By m h1) h2
def indep (ops:Array Oper) (m:Nat) (Ts:List Fp):Bool:=(List.range m).all fun i=>(List.range i).all fun j=>!(cf (Ts.getD j .no) (Ts.getD i .no)) || Ew ops m i j
theorem D8 {T U:Fp} {x:Nat} (h1:touch T x=true) (h2:touch U x=true) (hw:T.w=true∨U.w=true):cf T U=true:=by
 unfold cf
 rw [zC]
 refine ⟨by rcases hw with h | h<;>simp [h],?_⟩
 unfold touch at h1 h2
 simp only [Bool.or_eq_true,List.any_eq_true] at h1 h2 ⊢
 rcases h1 with h1 | ⟨a,ha,h1⟩
 ·exact .inl (.inl h1)
 ·rcases h2 with h2 | ⟨b,hb,h2⟩
  ·exact .inl (.inr h2)
  ·exact .inr ⟨a,ha,b,hb,by rw [←beq_eq h1,←beq_eq h2];exact Nat.beq_refl _⟩
def iZ (S:Hp) (x:Nat):Option Ob×Prop:=(S.ob x,S.fr x)
theorem lJ {S S':Hp} (h:∀x,iZ S x=iZ S' x):S=S':=Hp.ext' (fun i=>congrArg Prod.fst (h i)) (fun i=>by have:=congrArg Prod.snd (h i);exact Iff.of_eq this)
def rb (T:Fp) (H S:Hp):Hp:=bif T.w then et T H S else S
theorem tH (T:Fp) (H S:Hp) (x:Nat):iZ (rb T H S) x=if (T.w && touch T x)=true then iZ H x else iZ S x:=by
 unfold rb
 cases hw:T.w with
 | false=>simp
 | true=>
  simp only [cond_true,Bool.true_and]
  show (if touch T x=true then H.ob x else S.ob x,if touch T x=true then H.fr x else S.fr x)=_
  cases touch T x<;>rfl
def g7 (L:Nat→Bool):List (Fp×Hp)→Nat→Hp→Hp
 | [],_,S=>S
 | (T,H)::r,j,S=>g7 L r (j+1) (bif L j then rb T H S else S)
def fx (L:Nat→Bool) (x:Nat):List (Fp×Hp)→Nat→Option Ob×Prop→Option Ob×Prop
 | [],_,v=>v
 | (T,H)::r,j,v=>fx L x r (j+1) (if (L j && (T.w && touch T x))=true then iZ H x else v)
theorem eF (L:Nat→Bool) (x:Nat):∀(r:List (Fp×Hp)) (j:Nat) (S:Hp),iZ (g7 L r j S) x=fx L x r j (iZ S x)
 | [],_,_=>rfl
 | (T,H)::r,j,S=>by
  unfold g7 fx
  rw [eF L x r]
  congr 1
  cases hl:L j with
  | true=>simp only [cond_true,Bool.true_and];exact tH T H S x
  | false=>simp
theorem iv {L L':Nat→Bool} {x:Nat}:∀(r:List (Fp×Hp)) (j:Nat) (v:Option Ob×Prop),(∀m T H,r[m]?=some (T,H)→(T.w && touch T x)=true→L (j+m)=L' (j+m))→fx L x r j v=fx L' x r j v
 | [],_,_,_=>rfl
 | (T,H)::r,j,v,h=>by
  unfold fx
  have e:(if (L j && (T.w && touch T x))=true then iZ H x else v)=(if (L' j && (T.w && touch T x))=true then iZ H x else v):=by
   cases hw:(T.w && touch T x) with
   | false=>simp
   | true=>rw [show L j=L' j from h 0 T H rfl hw]
  rw [e]
  exact iv r (j+1) _ (fun m T' H' hm hw=>by have:=h (m+1) T' H' (by simpa using hm) hw;rwa [show j+(m+1)=j+1+m by omega] at this)
def tJ (H0:Hp) (rs:List (Fp×Hp)):Nat→Hp
 | 0=>H0
 | m+1=>match rs[m]? with
  | some q=>q.2
  | none=>H0
def fW (H0:Hp) (rs:List (Fp×Hp)):Prop:=∀m T H,rs[m]?=some (T,H)→(∀x,touch T x=false→iZ H x=iZ (tJ H0 rs m) x)∧(T.w=false→H=tJ H0 rs m)
theorem fK {H0:Hp} {q:Fp×Hp} {rs:List (Fp×Hp)} (m:Nat) (hm:m≤rs.length):tJ H0 (q::rs) (m+1)=tJ q.2 rs m:=by
 cases m with
 | zero=>rfl
 | succ m=>
  show (match (q::rs)[m+1]? with | some q=>q.2 | none=>H0)=(match rs[m]? with | some q'=>q'.2 | none=>q.2)
  rw [List.getElem?_cons_succ,zD (show m<rs.length by omega)]
theorem fW.tail {H0:Hp} {q:Fp×Hp} {rs:List (Fp×Hp)} (h:fW H0 (q::rs)):fW q.2 rs:=fun m T H hm=>by
 have:=h (m+1) T H (by simpa using hm)
 rw [fK m (Nat.le_of_lt (zB.1 hm).1)] at this
 exact this
theorem lH {x:Nat}:∀(rs:List (Fp×Hp)) (H0:Hp) (j i:Nat),fW H0 rs→i≤rs.length→fx (fun k=>decide (k<j+i)) x rs j (iZ H0 x)=iZ (tJ H0 rs i) x
 | [],H0,j,i,_,hi=>by
  have:i=0:=by simpa using hi
  subst this;rfl
 | (T,H)::rs,H0,j,0,hc,_=>by
  have Ld:∀(r:List (Fp×Hp)) (k:Nat) (v:Option Ob×Prop),j≤k→fx (fun k=>decide (k<j+0)) x r k v=v:=by
   intro r
   induction r with
   | nil=>intro k v _;rfl
   | cons q r ih=>
    intro k v hk
    obtain ⟨T,H⟩:=q
    unfold fx
    rw [show (decide (k<j+0))=false by simpa using hk]
    simp only [Bool.false_and,Bool.false_eq_true,if_false]
    exact ih (k+1) v (by omega)
  exact Ld _ j _ (Nat.le_refl _)
 | (T,H)::rs,H0,j,i+1,hc,hi=>by
  unfold fx
  rw [show (decide (j<j+(i+1)))=true by simp]
  simp only [Bool.true_and]
  have h0:=hc 0 T H rfl
  have e:(if (T.w && touch T x)=true then iZ H x else iZ H0 x)=iZ H x:=by
   cases hw:T.w with
   | false=>rw [h0.2 hw];simp [tJ]
   | true=>
    cases ht:touch T x with
    | true=>simp
    | false=>simp only [Bool.and_false,Bool.false_eq_true,if_false];exact (h0.1 x ht).symm
  rw [e,fK i (by simpa using hi)]
  have:=lH (x:=x) rs H (j+1) i hc.tail (by simpa using hi)
  rw [show j+1+i=j+(i+1) by omega] at this
  exact this
theorem qg {ops:Array Oper} {H0 S2:Hp} {rs:List (Fp×Hp)} (hc:fW H0 rs) (hi:indep ops rs.length (rs.map (·.1))=true) (hA:∀T H,(T,H)∈rs→Agree T H0 S2) {i:Nat} {T:Fp} {H:Hp} (hr:rs[i]?=some (T,H)) {L:Nat→Bool} (ha:zp ops i L) :
  Agree T (tJ H0 rs i) (g7 L rs 0 S2)∧g7 (ins L i) rs 0 S2=rb T H (g7 L rs 0 S2):=by
 have du:=(zB.1 hr).1
 have DU:∀(a b:Nat) (Ta Tb:Fp) (Ha Hb:Hp),b<rs.length→a<b→rs[a]?=some (Ta,Ha)→rs[b]?=some (Tb,Hb)→cf Ta Tb=true→Ew ops rs.length b a=true:=fun a b Ta Tb Ha Hb h1 h2 h3 h4 h5=>by
  unfold indep at hi
  have:=List.all_eq_true.1 (List.all_eq_true.1 hi b (List.mem_range.2 h1)) a (List.mem_range.2 h2)
  have ga:(rs.map (·.1)).getD a .no=Ta:=by simp [zA,zL,h3]
  have gb:(rs.map (·.1)).getD b .no=Tb:=by simp [zA,zL,h4]
  rw [ga,gb,h5] at this
  simpa using this
 have VQ:∀x,touch T x=true→∀m T' H',rs[m]?=some (T',H')→(T'.w && touch T' x)=true→m≠i→L m=decide (m<i):=fun x hx m T' H' hm hw jk=>by
  simp only [zC] at hw
  have XJ:=(zB.1 hm).1
  rcases Nat.lt_or_ge m i with rS | rS
  ·rw [show decide (m<i)=true by simpa using rS]
   exact Ab ha _ m (DU m i T' T H' H du rS hm hr (D8 hw.2 hx (.inl hw.1)))
  ·have rS:i<m:=by omega
   rw [show decide (m<i)=false by simp;omega]
   cases hl:L m with
   | false=>rfl
   | true=>
    have:=l7 ha.down _ m i hl (DU i m T T' H H' XJ rS hr hm (D8 hx hw.2 (.inr hw.1)))
    rw [ha.new] at this;cases this
 have base:∀x,touch T x=true→iZ S2 x=iZ H0 x:=fun x hx=>by
  have:=hA T H (zG hr) x hx
  exact Prod.ext this.1 (propext this.2)
 have pre:∀x,touch T x=true→iZ (g7 L rs 0 S2) x=iZ (tJ H0 rs i) x:=fun x hx=>by
  rw [eF,base x hx,←lH rs H0 0 i hc (Nat.le_of_lt du)]
  refine iv rs 0 _ (fun m T' H' hm hw=>?_)
  simp only [Nat.zero_add]
  by_cases rS:m=i
  ·subst rS;rw [ha.new];simp
  ·exact VQ x hx m T' H' hm hw rS
 refine ⟨fun x hx=>?_,lJ fun x=>?_⟩
 ·have:=pre x hx
  exact ⟨congrArg Prod.fst this,Iff.of_eq (congrArg Prod.snd this)⟩
 ·rw [tH]
  by_cases hw:(T.w && touch T x)=true
  ·rw [if_pos hw]
   simp only [zC] at hw
   have e:tJ H0 rs (i+1)=H:=by
    show (match rs[i]? with | some q=>q.2 | none=>H0)=H
    rw [hr]
   rw [←e,eF,base x hw.2,←lH rs H0 0 (i+1) hc du]
   refine iv rs 0 _ (fun m T' H' hm QB=>?_)
   simp only [Nat.zero_add]
   by_cases rS:m=i
   ·subst rS;simp [ins]
   ·have:=VQ x hw.2 m T' H' hm QB rS
    show (m == i || L m)=decide (m<i+1)
    rw [this,show (m == i)=false by simpa using rS,Bool.false_or]
    by_cases h1:m<i
    ·rw [show decide (m<i)=true by simpa using h1,show decide (m<i+1)=true by simp;omega]
    ·rw [show decide (m<i)=false by simpa using h1,show decide (m<i+1)=false by simp;omega]
  ·rw [if_neg hw,eF,eF]
   refine iv rs 0 _ (fun m T' H' hm QB=>?_)
   simp only [Nat.zero_add]
   by_cases rS:m=i
   ·subst rS;rw [hr] at hm;cases hm;exact absurd QB hw
   ·show (m == i || L m)=L m
    rw [show (m == i)=false by simpa using rS,Bool.false_or]
end
section
open Go.RowKit
section
variable {P:Program} {E:Env} {cx:Cx} {n:Nat} {β:Type} {r:β}
def hG:List Fp→Fp
 | []=>.no
 | T::r=>T.cat (hG r)
def sh (E:Env) (cx:Cx) (n:Nat) (l0:List Oper):List Oper→Tr A→H→List Fp→(Tr A→H→List Fp→Option β)→Option β
 | [],F,h,acc,K=>K F h acc
 | o::l,F,h,acc,K=>match o.guard with
  | none=>ER E cx n o.op F h (fun F pv h' T=>od F o.dst pv (fun F'=>sh E cx n l0 l F' h' (acc++[T]) K))
  | some (j,want)=>Bk l0 n F j want (fun F b=>bif b then ER E cx n o.op F h (fun F pv h' T=>od F o.dst pv (fun F'=>sh E cx n l0 l F' h' (acc++[T]) K)) else od F o.dst .un (fun F'=>sh E cx n l0 l F' h (acc++[.no]) K))
def S9 (E:Env) (cx:Cx) (n:Nat) (β:Type) (_id:Nat) (ops:List Oper) (F:Tr A) (h:H) (U:Fp) (K:Tr A→H→Fp→Option β):Option β:=
 bif Od ops.toArray then sh E cx n ops ops F h [] (fun F h Ts=>bif indep ops.toArray ops.length Ts then K F h (U.cat (hG Ts)) else none) else none
def ku (ops:Array Oper) (H0:Hp) (rs:List (Fp×Hp)) (Sf:(Nat→Bool)→Hp) (k:Nat):Prop:=
 ∀m T H,rs[m]?=some (T,H)→∀L,zp ops (k+m) L→Agree T (tJ H0 rs m) (Sf L)∧Sf (ins L (k+m))=rb T H (Sf L)
theorem ku.tail {ops:Array Oper} {H0:Hp} {q:Fp×Hp} {rs:List (Fp×Hp)} {Sf:(Nat→Bool)→Hp} {k:Nat} (h:ku ops H0 (q::rs) Sf k):ku ops q.2 rs Sf (k+1):=fun m T H hm L ha=>by
 have:=h (m+1) T H (by simpa using hm) L (by rwa [show k+(m+1)=k+1+m by omega])
 rw [fK m (Nat.le_of_lt (zB.1 hm).1),show k+(m+1)=k+1+m by omega] at this
 exact this
theorem fW.cons {H0:Hp} {T:Fp} {H:Hp} {rs:List (Fp×Hp)} (h1:∀x,touch T x=false→iZ H x=iZ H0 x) (h2:T.w=false→H=H0) (h:fW H rs):fW H0 ((T,H)::rs):=fun m T' H' hm=>by
 cases m with
 | zero=>simp at hm;obtain ⟨rfl,rfl⟩:=hm;exact ⟨h1,h2⟩
 | succ m=>
  have O0:rs[m]?=some (T',H'):=by simpa using hm
  rw [fK m (Nat.le_of_lt (zB.1 O0).1)]
  exact h m T' H' O0
theorem oV (hE:bt P E) (hx:gD P cx) {l0:List Oper}:∀(l:List Oper) (F:Tr A) (h:H) (acc:List Fp) (K:Tr A→H→List Fp→Option β),sh E cx n l0 l F h acc K=some r →
  ∃F' h' rs,K F' h' (acc++rs.map (·.1))=some r∧Kp (ly l) F F'∧rs.length=l.length∧fW (hp h) rs∧(∀x,wt (hG (rs.map (·.1))) x=false→iZ (hp h') x=iZ (hp h) x)∧tJ (hp h) rs rs.length=hp h'∧∀Sf k,ku l0.toArray (hp h) rs Sf k→∀ds S (Kf:St→Prop),Kf (cS n F' ds S)→mJ P l0.toArray Sf l k (cS n F ds S) Kf
 | [],F,h,acc,K,hr=>⟨F,h,[],by have hr:K F h acc=some r:=hr;simpa using hr,.refl _ F,rfl,fun m T H hm=>by simp at hm,fun _ _=>rfl,rfl,fun Sf k _ ds S Kf hk=>hk⟩
 | o::l,F,h,acc,K,hr=>by
  have yes:∀(F:Tr A),ER E cx n o.op F h (fun F pv h' T=>od F o.dst pv (fun F'=>sh E cx n l0 l F' h' (acc++[T]) K))=some r →
    (∀ds S,o.guard=none∨∃j want,o.guard=some (j,want)∧ir l0.toArray (cS n F ds S) j want=some true) →
    ∃F' h' rs,K F' h' (acc++rs.map (·.1))=some r∧Kp (ly (o::l)) F F'∧rs.length=(o::l).length∧fW (hp h) rs∧(∀x,wt (hG (rs.map (·.1))) x=false→iZ (hp h') x=iZ (hp h) x)∧tJ (hp h) rs rs.length=hp h'∧∀Sf k,ku l0.toArray (hp h) rs Sf k→∀ds S (Kf:St→Prop),Kf (cS n F' ds S)→mJ P l0.toArray Sf (o::l) k (cS n F ds S) Kf:=fun F hr hg=>by
   obtain ⟨F0,e0,pv,h1,T1,k1,k2⟩:=w7 hE hx hr
   obtain ⟨F1,k3,E1,k4⟩:=lC k1
   obtain ⟨F2,h2,rs,k5,Qp,k6,k7,kw,k8,k9⟩:=oV hE hx l F1 h1 (acc++[T1]) K k3
   have hg:∀ds S,o.guard=none∨∃j want,o.guard=some (j,want)∧ir l0.toArray (cS n F0 ds S) j want=some true:=fun ds S=>by rw [e0];exact hg ds S
   refine ⟨F2,h2,(T1,hp h1)::rs,by simpa using k5,(Kp.of (l:=[]) e0).trans (m:=ly (o::l)) (E1.trans Qp (fun i hi=>zQ _ hi) (fun i hi=>zS _ hi)) (fun i hi=>by cases hi) (fun i hi=>hi),by simp [k6],fW.cons (fun x hx=>Prod.ext (k2.out x hx).1 (propext (k2.out x hx).2)) (fun hw=>lJ fun x=>Prod.ext (k2.rd x (zr hw)).1 (propext (k2.rd x (zr hw)).2)) k7,fun x hx=>(kw x (lM hx).2).trans (Prod.ext (k2.rd x (lM hx).1).1 (propext (k2.rd x (lM hx).1).2)),by rw [zR,fK _ (Nat.le_refl _)];exact k8,fun Sf k hs ds S Kf hk=>?_⟩
   rw [←e0 ds S]
   refine ⟨pv,?_,?_⟩
   ·have pq:∀L,zp l0.toArray k L→vr P o ((cS n F0 ds S).pk 0) (Sf L) (Sf (ins L k)) pv:=fun L ha=>by
     obtain ⟨q1,q2⟩:=hs 0 T1 (hp h1) rfl L ha
     have q1:Agree T1 (hp h) (Sf L):=q1
     have q2:Sf (ins L k)=rb T1 (hp h1) (Sf L):=q2
     rw [←kN,q2]
     have:=k2.ok (Sf L) q1
     unfold rb
     cases hw:T1.w with
     | true=>exact this
     | false=>
      rw [show hp h1=hp h from lJ fun x=>Prod.ext (k2.rd x (zr hw)).1 (propext (k2.rd x (zr hw)).2),ik q1] at this
      exact this
    unfold nt
    rcases hg ds S with hg | ⟨j,want,hg,hv⟩
    ·rw [hg];exact ⟨0,pq⟩
    ·rw [hg];exact .inl ⟨hv,0,pq⟩
   ·have:=k9 Sf (k+1) hs.tail ds S Kf hk
    rw [←k4 n ds S S,show ((cS n F0 ds S).put o.dst pv).to S=(cS n F0 ds S).put o.dst pv from n9 _ _] at this
    exact this
  unfold sh at hr
  split at hr
  ·rename_i hg
   exact yes F hr (fun _ _=>.inl hg)
  ·rename_i j want hg
   obtain ⟨F1,b,k1,k2,k3⟩:=tg hr
   cases b with
   | true=>
    simp only [cond_true] at k1
    obtain ⟨F',h',rs,q1,qp,q2,q3,qw,q4,q5⟩:=yes F1 k1 (fun ds S=>.inr ⟨j,want,hg,by rw [k2];exact k3 ds S⟩)
    refine ⟨F',h',rs,q1,(Kp.of (l:=[]) k2).trans qp (fun i hi=>by cases hi) (fun i hi=>hi),q2,q3,qw,q4,fun Sf k hs ds S Kf hk=>?_⟩
    rw [←k2]
    exact q5 Sf k hs ds S Kf hk
   | false=>
    simp only [cond_false] at k1
    obtain ⟨F2,k4,E1,k5⟩:=lC k1
    obtain ⟨F',h',rs,q1,qp,q2,q3,qw,q4,q5⟩:=oV hE hx l F2 h (acc++[.no]) K k4
    refine ⟨F',h',(.no,hp h)::rs,by simpa using q1,(Kp.of (l:=[]) k2).trans (m:=ly (o::l)) (E1.trans qp (fun i hi=>zQ _ hi) (fun i hi=>zS _ hi)) (fun i hi=>by cases hi) (fun i hi=>hi),by simp [q2],.cons (fun _ _=>rfl) (fun _=>rfl) q3,fun x hx=>qw x (lM hx).2,by rw [zR,fK _ (Nat.le_refl _)];exact q4,fun Sf k hs ds S Kf hk=>⟨.un,?_,?_⟩⟩
    ·unfold nt
     rw [hg]
     exact .inr ⟨k3 ds S,fun g=>.un,fun L ha=>(hs 0 .no (hp h) rfl L ha).2⟩
    ·have:=q5 Sf (k+1) hs.tail ds S Kf hk
     rw [←k5 n ds S S,show ((cS n F1 ds S).put o.dst .un).to S=(cS n F1 ds S).put o.dst .un from n9 _ _] at this
     rw [←k2]
     exact this
theorem ju {x:Nat}:∀(Ts:List Fp),touch (hG Ts) x=Ts.any fun T=>touch T x
 | []=>rfl
 | T::r=>by
  show touch (T.cat (hG r)) x=_
  rw [eA,ju r,List.any_cons]
theorem vi {H0:Hp}:∀(rs:List (Fp×Hp)),fW H0 rs→(∀x,touch (hG (rs.map (·.1))) x=false→iZ (tJ H0 rs rs.length) x=iZ H0 x)∧((hG (rs.map (·.1))).w=false→tJ H0 rs rs.length=H0):=fun rs=>by
 induction rs generalizing H0 with
 | nil=>exact fun _=>⟨fun _ _=>rfl,fun _=>rfl⟩
 | cons q rs ih=>
  intro hc
  obtain ⟨T,H⟩:=q
  obtain ⟨i1,i2⟩:=ih hc.tail
  have h0:=hc 0 T H rfl
  rw [zR,fK _ (Nat.le_refl _)]
  refine ⟨fun x hx=>?_,fun hw=>?_⟩
  ·have hx:touch (T.cat (hG (rs.map (·.1)))) x=false:=hx
   rw [eA,Bool.or_eq_false_iff] at hx
   exact (i1 x hx.2).trans (h0.1 x hx.1)
  ·have hw:(T.w || (hG (rs.map (·.1))).w)=false:=hw
   rw [Bool.or_eq_false_iff] at hw
   exact (i2 hw.2).trans (h0.2 hw.1)
theorem yr (hE:bt P E) (hx:gD P cx) (hm:P.follows .mixedOrders=true) (n:Nat) (β:Type):vt P n (S9 E cx n β):=fun id ops F h U K r hr=>by
 obtain ⟨X3,hr⟩:=ae hr
 obtain ⟨F',h',rs,k1,kp,k2,k3,kw,k4,k5⟩:=oV hE hx ops F h [] _ hr
 rw [List.nil_append] at k1
 obtain ⟨hi,k1⟩:=ae k1
 rw [←k2] at hi
 refine ⟨F',h',hG (rs.map (·.1)),k1,kp,fun inr ds=>?_⟩
 obtain ⟨e1,e2⟩:=vi rs k3
 rw [k4] at e1 e2
 refine ⟨⟨fun x hx=>⟨congrArg Prod.fst (e1 x hx),Iff.of_eq (congrArg Prod.snd (e1 x hx))⟩,fun x hx=>⟨congrArg Prod.fst (kw x hx),Iff.of_eq (congrArg Prod.snd (kw x hx))⟩⟩,fun ro _ S0 g0 w0 S2 hA Q hq=>?_⟩
 have L5:∀T H,(T,H)∈rs→Agree T (hp h) S2:=fun T H Bb x hx=>hA x (by
  rw [ju,List.any_eq_true]
  exact ⟨T,List.mem_map.2 ⟨_,Bb,rfl⟩,hx⟩)
 have zero:∀(r:List (Fp×Hp)) (j:Nat) (S:Hp),g7 (fun _=>false) r j S=S:=fun r=>by
  induction r with
  | nil=>exact fun _ _=>rfl
  | cons q r ih=>exact fun j S=>ih (j+1) S
 refine Ag (fun L=>g7 L rs 0 S2) hm X3 (zero rs 0 S2) ?_
 refine k5 (fun L=>g7 L rs 0 S2) 0 (fun m T H QV L ha=>?_) ds S2 _ ?_
 ·rw [Nat.zero_add] at ha ⊢
  exact qg k3 hi L5 QV ha
 ·have e:g7 (fun j=>decide (j<ops.length)) rs 0 S2=et (hG (rs.map (·.1))) (hp h') S2:=lJ fun x=>by
   rw [eF]
   cases ht:touch (hG (rs.map (·.1))) x with
   | true=>
    have b:iZ S2 x=iZ (hp h) x:=Prod.ext (hA x ht).1 (propext (hA x ht).2)
    have:=lH (x:=x) rs (hp h) 0 rs.length k3 (Nat.le_refl _)
    rw [Nat.zero_add,k4,k2] at this
    rw [b,this]
    show iZ (hp h') x=(if touch (hG (rs.map (·.1))) x=true then (hp h').ob x else S2.ob x,if touch (hG (rs.map (·.1))) x=true then (hp h').fr x else S2.fr x)
    rw [if_pos ht,if_pos ht];rfl
   | false=>
    rw [iv (L':=fun _=>false) rs 0 _ (fun m T H QV hw=>by
     simp only [zC] at hw
     have:touch (hG (rs.map (·.1))) x=true:=by
      rw [ju,List.any_eq_true]
      exact ⟨T,List.mem_map.2 ⟨_,zG QV,rfl⟩,hw.2⟩
     rw [this] at ht;cases ht),←eF,zero]
    show iZ S2 x=(if touch (hG (rs.map (·.1))) x=true then (hp h').ob x else S2.ob x,if touch (hG (rs.map (·.1))) x=true then (hp h').fr x else S2.fr x)
    rw [if_neg (by rw [ht];simp),if_neg (by rw [ht];simp)];rfl
  show Q .normal ((cS n F' ds S2).to (g7 (fun j=>decide (j<ops.length)) rs 0 S2))
  rw [e]
  exact hq
end
end
open Go.RowKit
inductive pa (P:Program):Nat→Nat→vq→Prop
 | nil (a b:Nat):pa P a b .nil
 | no {a b:Nat} {l r:vq} (h1:pa P (2*a) (a+b) l) (h2:pa P (2*a) (2*a+b) r):pa P a b (.node l none r)
 | yes {a b:Nat} {e:bL} {l r:vq} (h:aR P b e) (h1:pa P (2*a) (a+b) l) (h2:pa P (2*a) (2*a+b) r):pa P a b (.node l (some e) r)
theorem zy {P:Program} {T:vq} {a b:Nat} (h:pa P a b T):∀t e,bM T t=some e→aR P (a*t+b) e:=by
 have key:∀(a b:Nat) (l r:vq),(∀t e,bM l t=some e→aR P (2*a*t+(a+b)) e)→(∀t e,bM r t=some e→aR P (2*a*t+(2*a+b)) e) →
   ∀n e v,bM (.node l v r) (n+1)=some e→aR P (a*(n+1)+b) e:=by
  intro a b l r hl hr n e v ht
  rw [tX] at ht
  cases hn:Nat.beq (n%2) 0 with
  | true=>
   rw [hn] at ht
   have h0:=Nat.eq_of_beq_eq_true hn
   have:=hl _ e ht
   have e1:a*(n+1)+b=2*a*(n / 2)+(a+b):=by
    have:n=2*(n / 2):=by omega
    generalize n / 2=k at this
    subst this
    rw [Nat.mul_add,Nat.mul_one,Nat.mul_comm 2 a,Nat.mul_assoc];omega
   rw [e1];exact this
  | false=>
   rw [hn] at ht
   have h0:n%2≠0:=fun h=>by rw [h] at hn;cases hn
   have:=hr _ e ht
   have e1:a*(n+1)+b=2*a*(n / 2)+(2*a+b):=by
    have:n=2*(n / 2)+1:=by omega
    generalize n / 2=k at this
    subst this
    rw [show 2*k+1+1=2*(k+1) by omega,←Nat.mul_assoc,Nat.mul_comm a 2,Nat.mul_add,Nat.mul_one];omega
   rw [e1];exact this
 induction h with
 | nil=>intro t e h;cases h
 | no h1 h2 xC A0=>
  intro t e ht
  cases t with
  | zero=>cases ht
  | succ n=>exact key _ _ _ _ xC A0 n e _ ht
 | yes h h1 h2 xC A0=>
  intro t e ht
  cases t with
  | zero=>cases ht;rw [Nat.mul_zero,Nat.zero_add];exact h
  | succ n=>exact key _ _ _ _ xC A0 n e _ ht
theorem zw {P:Program} {T:vq} (h:pa P 1 0 T):∀t e,bM T t=some e→aR P t e:=fun t e ht=>by
 have:=zy h t e ht
 rwa [Nat.one_mul,Nat.add_zero] at this
inductive Pk (P:Program):List Nat→Prop
 | nil:Pk P []
 | cons {t:Nat} {r:List Nat} (h:dX P t) (k:Pk P r):Pk P (t::r)
theorem FL {P:Program} {l:List Nat} (h:Pk P l):∀t,l.any (Nat.beq t)=true→dX P t:=by
 induction h with
 | nil=>intro f h;simp at h
 | cons h k ih=>
  rename_i f0 r
  intro f hf
  rw [List.any_cons,Bool.or_eq_true] at hf
  rcases hf with hf | hf
  ·obtain rfl:=Nat.eq_of_beq_eq_true hf;exact h
  ·exact ih f hf
theorem bN {P : Program} {t : Nat} {fs : Array Field} (h1 : P.stoodInHeld t = false) (h2 : P.eqGuardType P.depth t = false) (h3 : P.underlying t = some (.struct fs)) (h4 : fs.toList.all (fun f => f.name != "_") = true) : dX P t :=
 ⟨h1,h2,fun ZS e f hf=>by
  rw [h3] at e
  cases e
  have:=List.all_eq_true.1 h4 f hf
  simpa using this⟩
theorem au {P:Program} {t:Nat} {e:bL} (h1:P.underlying t=some e.d) (h2:TI P t e.size e.bytes e.zero) (h3:∀fs,e.d = .struct fs→∀w:World,(fs.mapM fun f=>(do pure (f.offset,←sizeOf f.type):Sem (Nat×Nat))).run P w = .ok e.pl.toArray w)
  (h4:∀u,e.t=some u→u.size=e.size∧kC u (ff e.zero)=some u.bT):aR P t e where
 u:=h1
 ti:=h2
 pl:=h3
 ts:=fun u hu=>(h4 u hu).1
 tz:=fun u hu g=>by
  obtain ⟨i,t1,t2,t3,t4,t5,t6⟩:=h2
  exact (eQ (g:=g) u _ _ (h4 u hu).2).2 _ (jJ t6 g)
theorem dU {e:bL} (h:e.t=none):∀u,e.t=some u→u.size=e.size∧kC u (ff e.zero)=some u.bT:=fun u hu=>by rw [h] at hu;cases hu
theorem aI {e:bL} {u:Ty} (h:e.t=some u) (h1:u.size=e.size) (h2:kC u (ff e.zero)=some u.bT):∀u,e.t=some u→u.size=e.size∧kC u (ff e.zero)=some u.bT:=fun u' hu=>by rw [h] at hu;cases hu;exact ⟨h1,h2⟩
inductive HT where
 | o
 | n (h:Option LH) (x y:HT)
 | z (l:List (Nat×Ty)) (t:HT)
def HT.h:HT→Option LH
 | .o=>none
 | .n h _ _=>h
 | .z _ t=>t.h
def HT.l:HT→HT
 | .o=>.o
 | .n _ x _=>x
 | .z _ t=>t.l
def HT.r:HT→HT
 | .o=>.o
 | .n _ _ y=>y
 | .z _ t=>t.r
def HT.fz:HT→List (Nat×Ty)
 | .z l _=>l
 | _=>[]
def DG (l:List (Nat×Ty)) (x:aw):aw:=match l with
 | []=>x
 | p::l=>.FC (p::l) x
theorem rF (l:List (Nat×Ty)) (x:aw):(DG l x).code=x.code:=by cases l<;>rfl
def Lf:LH:=⟨[],[],[],[],[],[]⟩
def mkSeq (h:Option LH) (x y:aw):aw:=match h with
 | some h=>.cut h x y
 | none=>.seq x y
def xf (h:Option LH) (x:aw):aw:=match h with
 | some h=>.loop h x
 | none=>.loop Lf x
def comp:Code→HT→aw
 | .skip,_=>.skip
 | .ret,_=>.ret
 | .exit id,_=>.exit id
 | .region id ops d,_=>.region id ops.toList d
 | .seq x y,t=>mkSeq t.h (comp x t.l) (DG t.r.fz (comp y t.r))
 | .cond c x y,t=>.cond c (comp x t.l) (comp y t.r)
 | .block id x,t=>.block id (comp x t.l)
 | .scope x,t=>.scope (comp x t.l)
 | .label l,_=>.label l
 | .loop x,t=>xf t.h (comp x t.l)
 | .rangeFunc g ps x y,t=>.range g ps.toList Lf (comp x t.l) (comp y t.r)
 | c,_=>.bad c
theorem rE (h:Option LH) (x y:aw):(mkSeq h x y).code = .seq x.code y.code:=by cases h<;>rfl
theorem qb (h:Option LH) (x:aw):(xf h x).code = .loop x.code:=by cases h<;>rfl
theorem vf (c:Code) (t:HT):(comp c t).code=c:=by
 fun_induction comp c t<;>simp_all [aw.code,rE,qb,rF]
def ar (f:Func):Code:=match f.body with
 | some c=>c
 | none=>.skip
theorem aj {P : Program} {f : Nat} {fn : Func} {t : HT} (h1 : P.funcs[f]? = some fn) (h2 : fn.body = some (ar fn)) (h3 : (fn.name == "runtime.NumGoroutine") = false) : aK P f fn (comp (ar fn) t) := ⟨h1, by rw [vf]; exact h2, h3⟩
section
open Go.RowKit
structure pb (P:Program) (f:FuncId) (t:Ty):Prop where
 fn:pf P f
 ok:∀(n:Nat) (w:World),n≤16777216→Calls P f #[.slice none 0 0,.int .i64 (n:Int)] w fun e w'=>∃v,e = .returned v∧((v = .slice none 0 0∧w'=w)∨∃vs ty cap,v = .slice (some ⟨w.heap.size,0,none⟩) 0 cap∧w'=w.drew.alloc (.cells vs ty)∧cap*t.size≤vs.size∧cap≤maxLen)
structure lL (P:Program) (f:FuncId) (t:Ty):Prop where
 fn:pf P f
 none:∀(n c:Nat) (w:World),Calls P f #[.slice none n c] w fun e w'=>e = .returned (.slice none 0 0)∧w'=w
 some:∀(g:G) (S:Hp) (q:Nat),S.fr q→∀l:List t.T,l.length≤16777216→∀(w:World),Inv g S w→∀(a:Addr) (n c:Nat),(∀w2,Inv g S w2→Given g w2 (.slice (some a) n c) t.size l.length (l.flatMap (aB t))) →
  Calls P f #[.slice (some a) n c] w fun e w'=>∃v g',e = .returned v∧V g' (.tw (.loc q) t.size) v∧Inv g' (S.new q (.cells (l.flatMap (aB t)))) w'∧Ext S g w (S.new q (.cells (l.flatMap (aB t)))) g' w'
inductive GZ where
 | fn (sg:ck) (F:Plain sg)
 | grow (t:Ty)
 | clone (t:Ty)
abbrev pg:=Nat→Option GZ
def GZ.Ok (P:Program) (f:FuncId):GZ→Prop
 | .fn sg F=>bg P f sg F
 | .grow t=>pb P f t
 | .clone t=>lL P f t
def hC (P:Program) (mV:pg):Prop:=∀f e,mV f=some e→e.Ok P f
def te {β:Type} (t:Ty) (aa:List A) (h:H) (K:A→H→Fp→Option β):Option β:=match aa with
 | [.v (.slice none 0 0),.v (.int .i64 n)]=>gd (bl n) (gd (bj (nN n) 16777216) (iY (.row t []) h (fun q h'=>K (.tw (.loc q) t.size) h' (.wr [b8 q]))))
 | _=>none
def oZ {β:Type} (t:Ty) (aa:List A) (h:H) (K:A→H→Fp→Option β):Option β:=match aa with
 | [py]=>rj h t py (fun l T=>gd (bj (len (α:=t.T) l) 16777216) (iY (.row t l) h (fun q h'=>K (.tw (.loc q) t.size) h' ⟨false,b8 q::T,true,[b8 q]⟩)))
 | _=>none
def FZ (mV:pg) (se:Cx):Cx:=⟨fun β f aa h K=>match mV f with
 | some (.fn sg F)=>Pf sg F aa h K
 | some (.grow t)=>te t aa h K
 | some (.clone t)=>oZ t aa h K
 | none=>se.call β f aa h K,se.hm,se.mU⟩
section
variable {P:Program} {E:Env}
theorem xU {β:Type} {f:FuncId} {t:Ty} (hg:pb P f t) {aa:List A} {h:H} {K:A→H→Fp→Option β} {r:β} (hr:te t aa h K=some r):∃pv h' T,K pv h' T=some r∧nR P f aa h h' T pv:=by
 unfold te at hr
 split at hr
 ·rename_i n
  obtain ⟨hp,hr⟩:=ba hr
  have hp:0≤n:=hp
  obtain ⟨hn,hr⟩:=ba hr
  have hn:n.toNat≤16777216:=hn
  have QU:n=((n.toNat:Nat):Int):=by omega
  obtain ⟨h',k1,hq,hf,hh⟩:=db hr
  have hT:∀u∈[Up.new h.aL (dt.row t []).low],touch (.wr [b8 h.aL]) u.id=true:=fun u hu=>by rcases zF.1 hu with rfl;exact az (o:=h.aL) hq (.head _)
  have hW:∀u∈[Up.new h.aL (dt.row t []).low],wt (.wr [b8 h.aL]) u.id=true:=fun u hu=>by rcases zF.1 hu with rfl;exact az (l:=[b8 h.aL]) (w:=false) (s:=[]) (o:=h.aL) hq (.head _)
  refine ⟨_,_,_,k1,fun i hi=>by rw [hh];exact bW _ _ i (fun u hu e=>by rw [e,hT u hu] at hi;cases hi),fun i hi=>by rw [hh];exact bW _ _ i (fun u hu e=>by rw [e,hW u hu] at hi;cases hi),hg.fn,fun S2 hA=>?_⟩
  rw [hh,dG hT hA]
  show PC P f _ S2 (S2.new h.aL (.cells [])) _
  have xP:S2.fr h.aL:=(hA _ (az hq (.head _))).2.2 hf
  intro g w vs hI hl hv
  match vs,hl with
  | [u,v],_=>
   have e1:=(hv 0 _ _ rfl rfl).dm
   have e2:=(hv 1 _ _ rfl rfl).dm
   subst e1 e2
   rw [QU]
   refine (hg.ok n.toNat w hn).mono ?_
   rintro e w' ⟨v,rfl,⟨rfl,rfl⟩ | ⟨vs,ty,cap,rfl,rfl,k3,k4⟩⟩
   ·obtain ⟨q1,q2⟩:=hI.emp xP
    exact ⟨_,_,rfl,.ni (.loc h.aL) t.size none bG,q1,q2⟩
   ·obtain ⟨q1,q2⟩:=hI.drew.gY xP (cs:=[]) (vs:=vs) ty (Nat.zero_le _) ⟨by simp,fun j c x e=>by simp at e⟩
    refine ⟨_,_,rfl,.tw (.loc h.aL) t.size 0 w.heap.size cap vs.size ?_ (Nat.zero_le _) k4 k3 0 (fun _=>rfl),q1,Inv.nS q2⟩
    rw [Nat.zero_mul];exact bG
 ·cases hr
theorem vh {β:Type} {f:FuncId} {t:Ty} (hg:lL P f t) {aa:List A} {h:H} {K:A→H→Fp→Option β} {r:β} (hr:oZ t aa h K=some r):∃pv h' T,K pv h' T=some r∧nR P f aa h h' T pv:=by
 unfold oZ at hr
 split at hr
 ·rename_i py
  obtain ⟨l,T,hr,uV⟩:=nV hr
  obtain ⟨hn,hr⟩:=ba hr
  have hn:List.length (α:=t.T) l≤16777216:=hn
  obtain ⟨h',k1,hq,hf,hh⟩:=db hr
  have hT:∀u∈[Up.new h.aL (dt.row t l).low],touch ⟨false,b8 h.aL::T,true,[b8 h.aL]⟩ u.id=true:=fun u hu=>by rcases zF.1 hu with rfl;exact az (o:=h.aL) hq (.head _)
  have hW:∀u∈[Up.new h.aL (dt.row t l).low],wt ⟨false,b8 h.aL::T,true,[b8 h.aL]⟩ u.id=true:=fun u hu=>by rcases zF.1 hu with rfl;exact az (l:=[b8 h.aL]) (w:=false) (s:=[]) (o:=h.aL) hq (.head _)
  refine ⟨_,_,_,k1,fun i hi=>by rw [hh];exact bW _ _ i (fun u hu e=>by rw [e,hT u hu] at hi;cases hi),fun i hi=>by rw [hh];exact bW _ _ i (fun u hu e=>by rw [e,hW u hu] at hi;cases hi),hg.fn,fun S2 hA=>?_⟩
  rw [hh,dG hT hA]
  show PC P f _ S2 (S2.new h.aL (.cells (List.flatMap (aB t) l))) _
  have xP:S2.fr h.aL:=(hA _ (az hq (.head _))).2.2 hf
  have uV:=uV S2 (hA.mono fun i hi=>.tail _ hi)
  intro g w vs hI O1 hv
  match vs,O1 with
  | [u],_=>
   have e1:=hv 0 _ _ rfl rfl
   have O3:∀w2,Inv g S2 w2→Given g w2 u t.size l.length (l.flatMap (aB t)):=fun w2 Yd=>uV g w2 u Yd e1
   obtain ⟨A,c,us,rfl,k2,k3,k4⟩:=O3 w hI
   cases A with
   | none=>
    have Q0:l=[]:=by
     rcases Nat.eq_zero_or_pos l.length with h0 | h0
     ·exact zZ h0
     ·obtain ⟨_,e,_⟩:=k4 h0;cases e
    refine (hg.none _ c w).mono ?_
    rintro e w' ⟨rfl,rfl⟩
    rw [Q0]
    obtain ⟨q1,q2⟩:=hI.emp xP
    exact ⟨_,_,rfl,.ni (.loc h.aL) t.size none bG,q1,q2⟩
   | some a=>exact hg.some g S2 h.aL xP l hn w hI a _ c O3
 ·cases hr
theorem tC {mV:pg} (hc:hC P mV) {se:Cx} (hf:gD P se):gD P (FZ mV se):=⟨fun β f aa h K r hr=>by
 have hr:(match mV f with | some (.fn sg F)=>Pf sg F aa h K | some (.grow t)=>te t aa h K | some (.clone t)=>oZ t aa h K | none=>se.call β f aa h K)=some r:=hr
 split at hr
 ·rename_i sg F he
  exact F6 (hc f _ he) hr
 ·rename_i t he
  exact xU (hc f _ he) hr
 ·rename_i t he
  exact vh (hc f _ he) hr
 ·exact hf.call β f aa h K r hr,hf.mU⟩
def S_ (E:Env) (fns:FT) (hm:List (Nat×Nat)) (mV:pg):Nat→Cx
 | 0=>FZ mV (vL hm)
 | k+1=>FZ mV (rh E fns (fun cx n=>S9 E cx n) hm (S_ E fns hm mV k))
def Tc (E:Env) (fns:FT) (hm:List (Nat×Nat)) (mV:pg) (k:Nat):Cx:=rh E fns (fun cx n=>S9 E cx n) hm (S_ E fns hm mV k)
theorem oW (hE:bt P E) (xM:P.follows .mixedOrders=true) {fns:FT} (hF:qO P fns) {hm:List (Nat×Nat)} {mV:pg} (hc:hC P mV):∀k,gD P (S_ E fns hm mV k)
 | 0=>tC hc (tK hm)
 | k+1=>tC hc (nu hE hF (oW hE xM hF hc k) (fun n β=>yr hE (oW hE xM hF hc k) xM n β))
theorem mL (hE:bt P E) (xM:P.follows .mixedOrders=true) {fns:FT} (hF:qO P fns) {hm:List (Nat×Nat)} {mV:pg} (hc:hC P mV) (k:Nat):gD P (Tc E fns hm mV k):=nu hE hF (oW hE xM hF hc k) (fun n β=>yr hE (oW hE xM hF hc k) xM n β)
theorem bg.of {f:FuncId} {sg:ck} {F G:Plain sg} (h:bg P f sg G) (e:∀x c d,F x c d=G x c d):bg P f sg F:=by
 have:F=G:=funext fun x=>funext fun c=>funext fun d=>e x c d
 rw [this];exact h
end
end
section
open Go.RowKit
def ah {α:Type} (d:α) (l:List α) (i:Nat) (f:α→α):List α:=upd l i (f (nth d l i))
def Yx:pg:=fun _=>none
def YA (f:Nat) (sg:ck) (F:Plain sg) (l:pg):pg:=fun g=>bif Nat.beq g f then some (.fn sg F) else l g
def Yz (f:Nat) (t:Ty) (l:pg):pg:=fun g=>bif Nat.beq g f then some (.grow t) else l g
def Yy (f:Nat) (t:Ty) (l:pg):pg:=fun g=>bif Nat.beq g f then some (.clone t) else l g
theorem aJ {P:Program}:hC P Yx:=fun f e h=>by cases h
theorem ao {P:Program} {f:Nat} {sg:ck} {F:Plain sg} {l:pg} (h:bg P f sg F) (k:hC P l):hC P (YA f sg F l):=fun g e hg=>by
 have hg:(bif Nat.beq g f then some (GZ.fn sg F) else l g)=some e:=hg
 cases hb:Nat.beq g f with
 | true=>rw [hb] at hg;cases hg;rw [beq_eq hb];exact h
 | false=>rw [hb] at hg;exact k g e hg
theorem F5 {P:Program} {f:Nat} {t:Ty} {l:pg} (h:lL P f t) (k:hC P l):hC P (Yy f t l):=fun g e hg=>by
 have hg:(bif Nat.beq g f then some (GZ.clone t) else l g)=some e:=hg
 cases hb:Nat.beq g f with
 | true=>rw [hb] at hg;cases hg;rw [beq_eq hb];exact h
 | false=>rw [hb] at hg;exact k g e hg
theorem F7 {P:Program} {f:Nat} {t:Ty} {l:pg} (h:pb P f t) (k:hC P l):hC P (Yz f t l):=fun g e hg=>by
 have hg:(bif Nat.beq g f then some (GZ.grow t) else l g)=some e:=hg
 cases hb:Nat.beq g f with
 | true=>rw [hb] at hg;cases hg;rw [beq_eq hb];exact h
 | false=>rw [hb] at hg;exact k g e hg
inductive BR (P:Program):Nat→Nat→Tr (Func×aw)→Prop
 | nil (a b:Nat):BR P a b .nil
 | no {a b:Nat} {l r:Tr (Func×aw)} (h1:BR P (2*a) (a+b) l) (h2:BR P (2*a) (2*a+b) r):BR P a b (.node l none r)
 | yes {a b:Nat} {fn:Func} {x:aw} {l r:Tr (Func×aw)} (h:aK P b fn x) (h1:BR P (2*a) (a+b) l) (h2:BR P (2*a) (2*a+b) r):BR P a b (.node l (some (fn,x)) r)
theorem FB {P:Program} {T:Tr (Func×aw)} {a b:Nat} (h:BR P a b T):∀t fn x,T.get t=some (fn,x)→aK P (a*t+b) fn x:=by
 have key:∀(a b:Nat) (l r:Tr (Func×aw)),(∀t fn x,l.get t=some (fn,x)→aK P (2*a*t+(a+b)) fn x)→(∀t fn x,r.get t=some (fn,x)→aK P (2*a*t+(2*a+b)) fn x) →
   ∀n fn x v,(Tr.node l v r).get (n+1)=some (fn,x)→aK P (a*(n+1)+b) fn x:=by
  intro a b l r hl hr n fn x v ht
  rw [Tr.dN] at ht
  cases hn:Nat.beq (n%2) 0 with
  | true=>
   rw [hn] at ht
   have h0:=Nat.eq_of_beq_eq_true hn
   have:=hl _ fn x ht
   have e1:a*(n+1)+b=2*a*(n / 2)+(a+b):=by
    have:n=2*(n / 2):=by omega
    generalize n / 2=k at this
    subst this
    rw [Nat.mul_add,Nat.mul_one,Nat.mul_comm 2 a,Nat.mul_assoc];omega
   rw [e1];exact this
  | false=>
   rw [hn] at ht
   have h0:n%2≠0:=fun h=>by rw [h] at hn;cases hn
   have:=hr _ fn x ht
   have e1:a*(n+1)+b=2*a*(n / 2)+(2*a+b):=by
    have:n=2*(n / 2)+1:=by omega
    generalize n / 2=k at this
    subst this
    rw [show 2*k+1+1=2*(k+1) by omega,←Nat.mul_assoc,Nat.mul_comm a 2,Nat.mul_add,Nat.mul_one];omega
   rw [e1];exact this
 induction h with
 | nil=>intro t fn x h;cases h
 | no h1 h2 xC A0=>
  intro t fn x ht
  cases t with
  | zero=>cases ht
  | succ n=>exact key _ _ _ _ xC A0 n fn x _ ht
 | yes h h1 h2 xC A0=>
  intro t fn x ht
  cases t with
  | zero=>cases ht;rw [Nat.mul_zero,Nat.zero_add];exact h
  | succ n=>exact key _ _ _ _ xC A0 n fn x _ ht
theorem FA {P:Program} {T:Tr (Func×aw)} (h:BR P 1 0 T):qO P (fun f=>T.get f):=fun f fn x hf=>by
 have:=FB h f fn x hf
 rwa [Nat.one_mul,Nat.add_zero] at this
theorem NG {P:Program} {E:Env} {fns:FT} {hm:List (Nat×Nat)} {mV:pg} (hE:bt P E) (xM:P.follows .mixedOrders=true) (hF:qO P fns) (hc:hC P mV) (k:Nat) {f:FuncId} {sg:ck} {F:Plain sg} (e:∀x c d,F x c d=Et (Tc E fns hm mV k) f sg x c d):bg P f sg F:=
 (z6 (mL hE xM hF hc k) f sg).of e
theorem _root_.Go.Bm.V.CY {g:G} {t:Ty} {f:Bool} {l:List t.T} {v:Value} (hv:V g (.tl t f l) v):(∃a n c,v = .slice (some a) n c∧VD g.mem (.sl t.size f (l.map (cu t))) v)∨(l=[]∧v = .slice none 0 0):=by
 cases hv with
 | tl _ _ _ _ hd=>
  generalize lG:List.map (cu t) l=es at hd
  have kU:es.length=l.length:=by rw [←lG,zH]
  have jl:=hd
  cases hd with
  | pG sz full A=>
   cases A with
   | none=>exact .inr ⟨zZ kU.symm,rfl⟩
   | some a=>exact .inl ⟨_,_,_,rfl,jl⟩
  | sl _ _ _ a cap vs hz hc hf hn hx hl hm zg=>
   cases a with
   | some p=>exact .inl ⟨_,_,_,rfl,jl⟩
   | none=>
    have h0:cap=0:=hn rfl
    have h1:es.length=0:=by omega
    refine .inr ⟨zZ (by omega),?_⟩
    rw [h0,h1];rfl
theorem PC.less {P:Program} {f:FuncId} {aa:List A} {S S1 S2:Hp} {r:A} (h:PC P f aa S S1 r) (hs:∀o x,S2.ob o=some x→S1.ob o=some x) (hf:∀o,S2.fr o→S1.fr o):PC P f aa S S2 r:=fun g w vs hI hl hv=>by
 refine (h g w vs hI hl hv).mono ?_
 rintro e w' ⟨v,g',rfl,q1,q2,q3⟩
 exact ⟨v,g',rfl,q1,q2.less hs hf,q3.trans (.less hs hf)⟩
theorem DP {h:H} {i:Nat} (hl:i<bS):(hp h).ob i=cY h.t i∧((hp h).fr i↔h.aL≤i):=⟨if_pos hl,by show (if i<bS then _ else _)↔_;rw [if_pos hl]⟩
theorem j9 {t:Tr dt} {n m:Nat} {l:List Rg} {k k':List Nat} (h:n≤m):(∀o x,(hp ⟨.nil,m,l,k'⟩).ob o=some x→(hp ⟨t,n,l,k⟩).ob o=some x)∧∀o,(hp ⟨.nil,m,l,k'⟩).fr o→(hp ⟨t,n,l,k⟩).fr o:=by
 refine ⟨fun o x e=>?_,fun o e=>?_⟩
 ·by_cases ho:o<bS
  ·rw [(DP ho).1] at e
   have e0:cY .nil o=none:=by unfold cY;rw [Tr.get_nil]
   rw [show (⟨.nil,m,l,k'⟩:H).t = .nil from rfl,e0] at e
   cases e
  ·rw [(cR ho).1] at e ⊢;exact e
 ·by_cases ho:o<bS
  ·rw [(DP ho).2] at e ⊢;exact Nat.le_trans h e
  ·rw [(cR ho).2] at e ⊢;exact e
theorem oY {P:Program} {cx:Cx} (hx:gD P cx) {f:FuncId} {t:Ty} {rs:List (Bool×Ty)} {F:List t.T→Option (fL rs×Unit)}
  (hn:z7 cx f ⟨[(false,.aF t)],rs,[],[]⟩ [.v (.slice none 0 0)] () ()=F []) (h1:∀l,z7 cx f ⟨[(false,.aF t)],rs,[],[]⟩ [.nn t l] () ()=F l):bg P f ⟨[(false,.aF t)],rs,[],[]⟩ (fun x _ _=>F x.1):=by
 refine ⟨fun x c d y h=>(jU hx f _ _ c d y.1 y.2 ((h1 x.1).trans h)).1,fun x c d y d' h=>?_⟩
 obtain ⟨l,u⟩:=x
 obtain ⟨_,t1,n1,k1,p1⟩:=jU hx f _ _ c d y d' ((h1 l).trans h)
 obtain ⟨a1,a2⟩:=j9 (t:=t1) (n:=n1) (m:=n1) (l:=b9 [] d'++b9 [] c) (k:=k1) (k':=k1) (Nat.le_refl _)
 have full:∀m,n1≤m→PC P f [.nn t l] (hp (h0 [] [] c d)) (hp ⟨.nil,m,b9 [] d'++b9 [] c,k1⟩) (mY rs y):=fun m hm=>p1.less (j9 hm).1 (j9 hm).2
 cases l with
 | cons a l=>
  refine ⟨.nil,n1,k1,fun g w vs hI hl hv=>?_⟩
  match vs,hl with
  | [v],_=>
   rcases (hv 0 _ _ rfl rfl:V g (.tl t false (a::l)) v).CY with ⟨b,n,c2,rfl,hd⟩ | ⟨e,_⟩
   ·exact full n1 (Nat.le_refl _) g w _ hI rfl fun i p v e1 e2=>by
     cases i with
     | zero=>cases e1;cases e2;exact .nn _ _ _ _ _ hd
     | succ i=>cases e1
   ·cases e
 | nil=>
  obtain ⟨_,t0,n0,k0,p0⟩:=jU hx f _ _ c d y d' (hn.trans h)
  refine ⟨.nil,n1+n0,k1,fun g w vs hI hl hv=>?_⟩
  match vs,hl with
  | [v],_=>
   rcases (hv 0 _ _ rfl rfl:V g (.tl t false []) v).CY with ⟨b,n,c2,rfl,hd⟩ | ⟨_,rfl⟩
   ·exact full _ (Nat.le_add_right _ _) g w _ hI rfl fun i p v e1 e2=>by
     cases i with
     | zero=>cases e1;cases e2;exact .nn _ _ _ _ _ hd
     | succ i=>cases e1
   ·exact (p0.less (S2:=hp ⟨.nil,n1+n0,b9 [] d'++b9 [] c,k1⟩) (j9 (Nat.le_add_left _ _)).1 (j9 (Nat.le_add_left _ _)).2) g w _ hI rfl fun i p v e1 e2=>by
     cases i with
     | zero=>cases e1;cases e2;exact .v _
     | succ i=>cases e1
end
end Go.Bm
namespace Go.Proofs.YtklkjncibchelaaGreat
open Go.Bm
set_option maxRecDepth 20000
def R0:RK:=(.box (.pair (.pair (.int .i64) (.pair (.int .i64) (.pair (.int .i64) (.int .i64)))) (.pair (.fj 9 1) (.pair (.ptr 1) (.pair (.ptr 3) (.pair (.fj 5 1) (.pair (.fj 7 14) (.int .i64))))))))
def R1:RK:=(.box (.fj 2 1))
def R2:RK:=(.row (.int .u8))
def R3:RK:=(.box (.pair (.int .i64) (.pair (.int .i64) (.fj 4 2))))
def R4:RK:=(.row (.pair (.int .i64) (.int .i64)))
def R5:RK:=(.row (.ptr 6))
def R6:RK:=(.box (.pair (.aF (.pair (.int .u8) (.pair (.int .u8) (.pair (.int .u8) (.pair (.int .u8) (.pair (.int .i64) (.pair (.int .i64) (.int .i64)))))))) (.pair (.fj 8 1) (.pair (.aF (.pair (.int .i64) .bool)) (.pair (.pair (.pair (.int .u8) (.pair (.int .u8) (.pair (.int .u8) (.pair (.int .u8) (.pair (.int .i64) (.pair (.int .i64) (.int .i64))))))) (.pair (.int .i64) (.pair (.int .i64) (.pair (.int .u64) (.pair (.int .u64) (.pair (.aF (.pair (.int .i64) .bool)) (.pair (.int .u64) (.pair (.int .u64) (.pair (.int .i64) (.pair (.int .i64) (.pair (.aF (.int .i64)) (.pair (.int .i64) (.pair (.aF (.int .i64)) (.pair (.int .i64) (.pair .bool (.pair .bool (.pair .bool (.pair (.int .i64) (.pair (.int .i64) (.aF (.int .i64))))))))))))))))))))) (.pair .bool (.int .i64)))))))
def R7:RK:=(.row (.pair (.int .i64) (.pair (.pair (.int .u8) (.pair (.int .u8) (.pair (.int .u8) (.pair (.int .u8) (.pair (.int .i64) (.pair (.int .i64) (.int .i64))))))) (.pair (.int .i64) (.pair (.int .i64) (.pair (.int .i64) (.pair (.int .i64) (.pair (.int .i64) (.aF (.int .i64))))))))))
def R8:RK:=(.row (.int .u64))
def R9:RK:=(.row (.aF (.pair (.int .u8) (.pair (.int .i64) (.int .i64)))))
def VL:bL:=⟨.func #[] #[] false,1,8,.nilFunc,[],none,false⟩
theorem WR:aR Tryz.prog 1 VL:=au Tryz.underlying1 (aH (by kernel_rfl) rfl rfl) (fun _ h=>by cases h) (dU rfl)
def VJ:bL:=⟨.int .i64,1,8,.int .i64 0,[],(some (.int .i64)),false⟩
theorem WQ:aR Tryz.prog 2 VJ:=au Tryz.underlying2 (aH (by kernel_rfl) rfl rfl) (fun _ h=>by cases h) (aI rfl (by kernel_rfl) (by kernel_rfl))
def VI:bL:=⟨.int .i64,1,8,.int .i64 0,[],(some (.int .i64)),false⟩
theorem P1:aR Tryz.prog 3 VI:=au Tryz.underlying3 (aH (by kernel_rfl) rfl rfl) (fun _ h=>by cases h) (aI rfl (by kernel_rfl) (by kernel_rfl))
def VH:bL:=⟨.bool,1,1,.bool false,[],(some .bool),false⟩
theorem WO:aR Tryz.prog 4 VH:=au Tryz.underlying4 (aH (by kernel_rfl) rfl rfl) (fun _ h=>by cases h) (aI rfl (by kernel_rfl) (by kernel_rfl))
def VG:bL:=⟨.int .u8,1,1,.int .u8 0,[],(some (.int .u8)),false⟩
theorem WN:aR Tryz.prog 5 VG:=au Tryz.underlying5 (aH (by kernel_rfl) rfl rfl) (fun _ h=>by cases h) (aI rfl (by kernel_rfl) (by kernel_rfl))
def VF:bL:=⟨.string,1,16,.string ByteArray.empty,[],none,false⟩
theorem WM:aR Tryz.prog 9 VF:=au Tryz.underlying9 (aH (by kernel_rfl) rfl rfl) (fun _ h=>by cases h) (dU rfl)
def I4:bL:=⟨.int .u64,1,8,.int .u64 0,[],(some (.int .u64)),false⟩
theorem P8:aR Tryz.prog 12 I4:=au Tryz.underlying12 (aH (by kernel_rfl) rfl rfl) (fun _ h=>by cases h) (aI rfl (by kernel_rfl) (by kernel_rfl))
def I3 : bL := ⟨.struct #[⟨"msg", 9, 0, false, "", "runtime", 0⟩, ⟨"addr", 12, 1, false, "", "runtime", 16⟩], 2, 24, .agg #[.string ByteArray.empty, .int .u64 0], [(0, 1), (1, 1)], none, false⟩
theorem P7:aR Tryz.prog 13 I3:=au Tryz.underlying13 (aH (by kernel_rfl) rfl rfl) (fun fs h w=>by cases h;kernel_rfl) (dU rfl)
def I2:bL:=⟨.int .i32,1,4,.int .i32 0,[],(some (.int .i32)),false⟩
theorem P6:aR Tryz.prog 21 I2:=au Tryz.underlying21 (aH (by kernel_rfl) rfl rfl) (fun _ h=>by cases h) (aI rfl (by kernel_rfl) (by kernel_rfl))
def I1:bL:=⟨.int .i64,1,8,.int .i64 0,[],(some (.int .i64)),false⟩
theorem P5:aR Tryz.prog 23 I1:=au Tryz.underlying23 (aH (by kernel_rfl) rfl rfl) (fun _ h=>by cases h) (aI rfl (by kernel_rfl) (by kernel_rfl))
def I0:bL:=⟨.array 4 5,4,4,.agg #[.int .u8 0,.int .u8 0,.int .u8 0,.int .u8 0],[],(some (.arr 4 (.int .u8))),false⟩
theorem P4:aR Tryz.prog 27 I0:=au Tryz.underlying27 (aH (by kernel_rfl) rfl rfl) (fun _ h=>by cases h) (aI rfl (by kernel_rfl) (by kernel_rfl))
def IZ:bL:=⟨.slice 30,1,24,.slice none 0 0,[],(some (.aF (.aF (.pair (.int .u8) (.pair (.int .u8) (.pair (.int .u8) (.pair (.int .u8) (.pair (.int .i64) (.pair (.int .i64) (.int .i64)))))))))),false⟩
theorem P3:aR Tryz.prog 28 IZ:=au Tryz.underlying28 (aH (by kernel_rfl) rfl rfl) (fun _ h=>by cases h) (aI rfl (by kernel_rfl) (by kernel_rfl))
def IY:bL:=⟨.array 4 3,4,32,.agg #[.int .i64 0,.int .i64 0,.int .i64 0,.int .i64 0],[],(some (.arr 4 (.int .i64))),false⟩
theorem P2:aR Tryz.prog 29 IY:=au Tryz.underlying29 (aH (by kernel_rfl) rfl rfl) (fun _ h=>by cases h) (aI rfl (by kernel_rfl) (by kernel_rfl))
def IX:bL:=⟨.slice 40,1,24,.slice none 0 0,[],(some (.aF (.pair (.int .u8) (.pair (.int .u8) (.pair (.int .u8) (.pair (.int .u8) (.pair (.int .i64) (.pair (.int .i64) (.int .i64))))))))),false⟩
theorem P0:aR Tryz.prog 30 IX:=au Tryz.underlying30 (aH (by kernel_rfl) rfl rfl) (fun _ h=>by cases h) (aI rfl (by kernel_rfl) (by kernel_rfl))
def IW:bL:=⟨.pointer 85,1,8,.pointer none,[],(some (.ptr 0)),false⟩
theorem PZ:aR Tryz.prog 31 IW:=au Tryz.underlying31 (aH (by kernel_rfl) rfl rfl) (fun _ h=>by cases h) (aI rfl (by kernel_rfl) (by kernel_rfl))
def IV : bL := ⟨.struct #[⟨"Scopes", 3, 0, false, "", "", 0⟩, ⟨"Threads", 3, 1, false, "", "", 8⟩, ⟨"Immortal", 3, 2, false, "", "", 16⟩, ⟨"Heap", 3, 3, false, "", "", 24⟩], 4, 32, .agg #[.int .i64 0, .int .i64 0, .int .i64 0, .int .i64 0], [(0, 1), (1, 1), (2, 1), (3, 1)], (some (.pair (.int .i64) (.pair (.int .i64) (.pair (.int .i64) (.int .i64))))), false⟩
theorem PY:aR Tryz.prog 34 IV:=au Tryz.underlying34 (aH (by kernel_rfl) rfl rfl) (fun fs h w=>by cases h;kernel_rfl) (aI rfl (by kernel_rfl) (by kernel_rfl))
def IU : bL := ⟨.struct #[⟨"Scopes", 3, 0, false, "", "", 0⟩, ⟨"Threads", 3, 1, false, "", "", 8⟩, ⟨"Immortal", 3, 2, false, "", "", 16⟩, ⟨"Heap", 3, 3, false, "", "", 24⟩], 4, 32, .agg #[.int .i64 0, .int .i64 0, .int .i64 0, .int .i64 0], [(0, 1), (1, 1), (2, 1), (3, 1)], (some (.pair (.int .i64) (.pair (.int .i64) (.pair (.int .i64) (.int .i64))))), false⟩
theorem PX:aR Tryz.prog 35 IU:=au Tryz.underlying35 (aH (by kernel_rfl) rfl rfl) (fun fs h w=>by cases h;kernel_rfl) (aI rfl (by kernel_rfl) (by kernel_rfl))
def IT:bL:=⟨.slice 45,1,24,.slice none 0 0,[],(some (.aF (.pair (.int .i64) (.pair (.pair (.int .u8) (.pair (.int .u8) (.pair (.int .u8) (.pair (.int .u8) (.pair (.int .i64) (.pair (.int .i64) (.int .i64))))))) (.pair (.int .i64) (.pair (.int .i64) (.pair (.int .i64) (.pair (.int .i64) (.pair (.int .i64) (.aF (.int .i64))))))))))),false⟩
theorem PW:aR Tryz.prog 37 IT:=au Tryz.underlying37 (aH (by kernel_rfl) rfl rfl) (fun _ h=>by cases h) (aI rfl (by kernel_rfl) (by kernel_rfl))
def IS : bL := ⟨.struct #[⟨"Op", 5, 0, false, "", "", 0⟩, ⟨"R", 5, 1, false, "", "", 1⟩, ⟨"H", 5, 2, false, "", "", 2⟩, ⟨"V", 5, 3, false, "", "", 3⟩, ⟨"A", 3, 4, false, "", "", 8⟩, ⟨"B", 3, 5, false, "", "", 16⟩, ⟨"C", 3, 6, false, "", "", 24⟩], 7, 32, .agg #[.int .u8 0, .int .u8 0, .int .u8 0, .int .u8 0, .int .i64 0, .int .i64 0, .int .i64 0], [(0, 1), (1, 1), (2, 1), (3, 1), (4, 1), (5, 1), (6, 1)], (some (.pair (.int .u8) (.pair (.int .u8) (.pair (.int .u8) (.pair (.int .u8) (.pair (.int .i64) (.pair (.int .i64) (.int .i64)))))))), false⟩
theorem PV:aR Tryz.prog 39 IS:=au Tryz.underlying39 (aH (by kernel_rfl) rfl rfl) (fun fs h w=>by cases h;kernel_rfl) (aI rfl (by kernel_rfl) (by kernel_rfl))
def IQ : bL := ⟨.struct #[⟨"Op", 5, 0, false, "", "", 0⟩, ⟨"R", 5, 1, false, "", "", 1⟩, ⟨"H", 5, 2, false, "", "", 2⟩, ⟨"V", 5, 3, false, "", "", 3⟩, ⟨"A", 3, 4, false, "", "", 8⟩, ⟨"B", 3, 5, false, "", "", 16⟩, ⟨"C", 3, 6, false, "", "", 24⟩], 7, 32, .agg #[.int .u8 0, .int .u8 0, .int .u8 0, .int .u8 0, .int .i64 0, .int .i64 0, .int .i64 0], [(0, 1), (1, 1), (2, 1), (3, 1), (4, 1), (5, 1), (6, 1)], (some (.pair (.int .u8) (.pair (.int .u8) (.pair (.int .u8) (.pair (.int .u8) (.pair (.int .i64) (.pair (.int .i64) (.int .i64)))))))), false⟩
theorem PU:aR Tryz.prog 40 IQ:=au Tryz.underlying40 (aH (by kernel_rfl) rfl rfl) (fun fs h w=>by cases h;kernel_rfl) (aI rfl (by kernel_rfl) (by kernel_rfl))
def IP:bL:=⟨.slice 3,1,24,.slice none 0 0,[],(some (.aF (.int .i64))),false⟩
theorem zx:aR Tryz.prog 41 IP:=au Tryz.underlying41 (aH (by kernel_rfl) rfl rfl) (fun _ h=>by cases h) (aI rfl (by kernel_rfl) (by kernel_rfl))
def IN : bL := ⟨.struct #[⟨"Code", 23, 0, false, "", "", 0⟩, ⟨"N", 3, 1, false, "", "", 8⟩, ⟨"Said", 41, 2, false, "", "", 16⟩], 3, 40, .agg #[.int .i64 0, .int .i64 0, .slice none 0 0], [(0, 1), (1, 1), (2, 1)], (some (.pair (.int .i64) (.pair (.int .i64) (.aF (.int .i64))))), false⟩
theorem PT:aR Tryz.prog 42 IN:=au Tryz.underlying42 (aH (by kernel_rfl) rfl rfl) (fun fs h w=>by cases h;kernel_rfl) (aI rfl (by kernel_rfl) (by kernel_rfl))
def IM : bL := ⟨.struct #[⟨"Code", 23, 0, false, "", "", 0⟩, ⟨"N", 3, 1, false, "", "", 8⟩, ⟨"Said", 41, 2, false, "", "", 16⟩], 3, 40, .agg #[.int .i64 0, .int .i64 0, .slice none 0 0], [(0, 1), (1, 1), (2, 1)], (some (.pair (.int .i64) (.pair (.int .i64) (.aF (.int .i64))))), false⟩
theorem PS:aR Tryz.prog 43 IM:=au Tryz.underlying43 (aH (by kernel_rfl) rfl rfl) (fun fs h w=>by cases h;kernel_rfl) (aI rfl (by kernel_rfl) (by kernel_rfl))
def IL : bL := ⟨.struct #[⟨"Thread", 3, 0, false, "", "", 0⟩, ⟨"Call", 40, 1, false, "", "", 8⟩, ⟨"From", 3, 8, false, "", "", 40⟩, ⟨"Point", 3, 9, false, "", "", 48⟩, ⟨"To", 3, 10, false, "", "", 56⟩, ⟨"Answer", 43, 11, false, "", "", 64⟩], 14, 104, .agg #[.int .i64 0, .int .u8 0, .int .u8 0, .int .u8 0, .int .u8 0, .int .i64 0, .int .i64 0, .int .i64 0, .int .i64 0, .int .i64 0, .int .i64 0, .int .i64 0, .int .i64 0, .slice none 0 0], [(0, 1), (1, 7), (8, 1), (9, 1), (10, 1), (11, 3)], (some (.pair (.int .i64) (.pair (.pair (.int .u8) (.pair (.int .u8) (.pair (.int .u8) (.pair (.int .u8) (.pair (.int .i64) (.pair (.int .i64) (.int .i64))))))) (.pair (.int .i64) (.pair (.int .i64) (.pair (.int .i64) (.pair (.int .i64) (.pair (.int .i64) (.aF (.int .i64)))))))))), false⟩
theorem PR:aR Tryz.prog 44 IL:=au Tryz.underlying44 (aH (by kernel_rfl) rfl rfl) (fun fs h w=>by cases h;kernel_rfl) (aI rfl (by kernel_rfl) (by kernel_rfl))
def IK : bL := ⟨.struct #[⟨"Thread", 3, 0, false, "", "", 0⟩, ⟨"Call", 40, 1, false, "", "", 8⟩, ⟨"From", 3, 8, false, "", "", 40⟩, ⟨"Point", 3, 9, false, "", "", 48⟩, ⟨"To", 3, 10, false, "", "", 56⟩, ⟨"Answer", 43, 11, false, "", "", 64⟩], 14, 104, .agg #[.int .i64 0, .int .u8 0, .int .u8 0, .int .u8 0, .int .u8 0, .int .i64 0, .int .i64 0, .int .i64 0, .int .i64 0, .int .i64 0, .int .i64 0, .int .i64 0, .int .i64 0, .slice none 0 0], [(0, 1), (1, 7), (8, 1), (9, 1), (10, 1), (11, 3)], (some (.pair (.int .i64) (.pair (.pair (.int .u8) (.pair (.int .u8) (.pair (.int .u8) (.pair (.int .u8) (.pair (.int .i64) (.pair (.int .i64) (.int .i64))))))) (.pair (.int .i64) (.pair (.int .i64) (.pair (.int .i64) (.pair (.int .i64) (.pair (.int .i64) (.aF (.int .i64)))))))))), false⟩
theorem PQ:aR Tryz.prog 45 IK:=au Tryz.underlying45 (aH (by kernel_rfl) rfl rfl) (fun fs h w=>by cases h;kernel_rfl) (aI rfl (by kernel_rfl) (by kernel_rfl))
def IJ:bL:=⟨.slice 53,1,24,.slice none 0 0,[],(some (.aF (.aF (.pair (.int .u8) (.pair (.int .i64) (.int .i64)))))),false⟩
theorem PO:aR Tryz.prog 47 IJ:=au Tryz.underlying47 (aH (by kernel_rfl) rfl rfl) (fun _ h=>by cases h) (aI rfl (by kernel_rfl) (by kernel_rfl))
def II : bL := ⟨.struct #[⟨"P", 35, 0, false, "", "", 0⟩, ⟨"Fins", 47, 4, false, "", "", 32⟩, ⟨"Progs", 28, 5, false, "", "", 56⟩], 6, 80, .agg #[.int .i64 0, .int .i64 0, .int .i64 0, .int .i64 0, .slice none 0 0, .slice none 0 0], [(0, 4), (4, 1), (5, 1)], (some (.pair (.pair (.int .i64) (.pair (.int .i64) (.pair (.int .i64) (.int .i64)))) (.pair (.aF (.aF (.pair (.int .u8) (.pair (.int .i64) (.int .i64))))) (.aF (.aF (.pair (.int .u8) (.pair (.int .u8) (.pair (.int .u8) (.pair (.int .u8) (.pair (.int .i64) (.pair (.int .i64) (.int .i64)))))))))))), false⟩
theorem PN:aR Tryz.prog 48 II:=au Tryz.underlying48 (aH (by kernel_rfl) rfl rfl) (fun fs h w=>by cases h;kernel_rfl) (aI rfl (by kernel_rfl) (by kernel_rfl))
def IH : bL := ⟨.struct #[⟨"P", 35, 0, false, "", "", 0⟩, ⟨"Fins", 47, 4, false, "", "", 32⟩, ⟨"Progs", 28, 5, false, "", "", 56⟩], 6, 80, .agg #[.int .i64 0, .int .i64 0, .int .i64 0, .int .i64 0, .slice none 0 0, .slice none 0 0], [(0, 4), (4, 1), (5, 1)], (some (.pair (.pair (.int .i64) (.pair (.int .i64) (.pair (.int .i64) (.int .i64)))) (.pair (.aF (.aF (.pair (.int .u8) (.pair (.int .i64) (.int .i64))))) (.aF (.aF (.pair (.int .u8) (.pair (.int .u8) (.pair (.int .u8) (.pair (.int .u8) (.pair (.int .i64) (.pair (.int .i64) (.int .i64)))))))))))), false⟩
theorem PM:aR Tryz.prog 49 IH:=au Tryz.underlying49 (aH (by kernel_rfl) rfl rfl) (fun fs h w=>by cases h;kernel_rfl) (aI rfl (by kernel_rfl) (by kernel_rfl))
def IG:bL:=⟨.slice 88,1,24,.slice none 0 0,[],(some (.aF (.pair (.int .u8) (.pair (.int .i64) (.int .i64))))),false⟩
theorem PL:aR Tryz.prog 53 IG:=au Tryz.underlying53 (aH (by kernel_rfl) rfl rfl) (fun _ h=>by cases h) (aI rfl (by kernel_rfl) (by kernel_rfl))
def IF:bL:=⟨.pointer 70,1,8,.pointer none,[],none,false⟩
theorem PK:aR Tryz.prog 58 IF:=au Tryz.underlying58 (aH (by kernel_rfl) rfl rfl) (fun _ h=>by cases h) (dU rfl)
def IE:bL:=⟨.int .u16,1,2,.int .u16 0,[],(some (.int .u16)),false⟩
theorem PJ:aR Tryz.prog 64 IE:=au Tryz.underlying64 (aH (by kernel_rfl) rfl rfl) (fun _ h=>by cases h) (aI rfl (by kernel_rfl) (by kernel_rfl))
def ID:bL:=⟨.pointer 160,1,8,.pointer none,[],none,false⟩
theorem PI:aR Tryz.prog 67 ID:=au Tryz.underlying67 (aH (by kernel_rfl) rfl rfl) (fun _ h=>by cases h) (dU rfl)
def IC:bL:=⟨.slice 155,1,24,.slice none 0 0,[],(some (.aF (.pair (.aF (.pair (.int .u8) (.pair (.int .u8) (.pair (.int .u8) (.pair (.int .u8) (.pair (.int .i64) (.pair (.int .i64) (.int .i64)))))))) (.pair (.arr 4 (.int .u64)) (.pair (.aF (.pair (.int .i64) .bool)) (.pair (.pair (.pair (.int .u8) (.pair (.int .u8) (.pair (.int .u8) (.pair (.int .u8) (.pair (.int .i64) (.pair (.int .i64) (.int .i64))))))) (.pair (.int .i64) (.pair (.int .i64) (.pair (.int .u64) (.pair (.int .u64) (.pair (.aF (.pair (.int .i64) .bool)) (.pair (.int .u64) (.pair (.int .u64) (.pair (.int .i64) (.pair (.int .i64) (.pair (.aF (.int .i64)) (.pair (.int .i64) (.pair (.aF (.int .i64)) (.pair (.int .i64) (.pair .bool (.pair .bool (.pair .bool (.pair (.int .i64) (.pair (.int .i64) (.aF (.int .i64))))))))))))))))))))) (.int .i64))))))),false⟩
theorem PH:aR Tryz.prog 68 IC:=au Tryz.underlying68 (aH (by kernel_rfl) rfl rfl) (fun _ h=>by cases h) (aI rfl (by kernel_rfl) (by kernel_rfl))
def IB : bL := ⟨.struct #[⟨"X", 67, 0, false, "", "", 0⟩, ⟨"T", 68, 1, false, "", "", 8⟩, ⟨"Ops", 37, 2, false, "", "", 32⟩, ⟨"Steps", 3, 3, false, "", "", 56⟩], 4, 64, .agg #[.pointer none, .slice none 0 0, .slice none 0 0, .int .i64 0], [(0, 1), (1, 1), (2, 1), (3, 1)], none, false⟩
theorem PG:aR Tryz.prog 69 IB:=au Tryz.underlying69 (aH (by kernel_rfl) rfl rfl) (fun fs h w=>by cases h;kernel_rfl) (dU rfl)
def IA : bL := ⟨.struct #[⟨"X", 67, 0, false, "", "", 0⟩, ⟨"T", 68, 1, false, "", "", 8⟩, ⟨"Ops", 37, 2, false, "", "", 32⟩, ⟨"Steps", 3, 3, false, "", "", 56⟩], 4, 64, .agg #[.pointer none, .slice none 0 0, .slice none 0 0, .int .i64 0], [(0, 1), (1, 1), (2, 1), (3, 1)], none, false⟩
theorem PF:aR Tryz.prog 70 IA:=au Tryz.underlying70 (aH (by kernel_rfl) rfl rfl) (fun fs h w=>by cases h;kernel_rfl) (dU rfl)
def Iz:bL:=⟨.pointer 169,1,8,.pointer none,[],(some (.ptr 1)),false⟩
theorem PE:aR Tryz.prog 79 Iz:=au Tryz.underlying79 (aH (by kernel_rfl) rfl rfl) (fun _ h=>by cases h) (aI rfl (by kernel_rfl) (by kernel_rfl))
def Iy:bL:=⟨.pointer 172,1,8,.pointer none,[],(some (.ptr 3)),false⟩
theorem PD:aR Tryz.prog 80 Iy:=au Tryz.underlying80 (aH (by kernel_rfl) rfl rfl) (fun _ h=>by cases h) (aI rfl (by kernel_rfl) (by kernel_rfl))
def Ix:bL:=⟨.slice 89,1,24,.slice none 0 0,[],none,false⟩
theorem PB:aR Tryz.prog 83 Ix:=au Tryz.underlying83 (aH (by kernel_rfl) rfl rfl) (fun _ h=>by cases h) (dU rfl)
def Iw : bL := ⟨.struct #[⟨"p", 35, 0, false, "", "penfold/world", 0⟩, ⟨"fins", 47, 4, false, "", "penfold/world", 32⟩, ⟨"arena", 79, 5, false, "", "penfold/world", 56⟩, ⟨"ground", 80, 6, false, "", "penfold/world", 64⟩, ⟨"threads", 83, 7, false, "", "penfold/world", 72⟩, ⟨"ops", 37, 8, false, "", "penfold/world", 96⟩, ⟨"steps", 3, 9, false, "", "penfold/world", 120⟩], 10, 128, .agg #[.int .i64 0, .int .i64 0, .int .i64 0, .int .i64 0, .slice none 0 0, .pointer none, .pointer none, .slice none 0 0, .slice none 0 0, .int .i64 0], [(0, 4), (4, 1), (5, 1), (6, 1), (7, 1), (8, 1), (9, 1)], none, false⟩
theorem PA:aR Tryz.prog 84 Iw:=au Tryz.underlying84 (aH (by kernel_rfl) rfl rfl) (fun fs h w=>by cases h;kernel_rfl) (dU rfl)
def Iv : bL := ⟨.struct #[⟨"p", 35, 0, false, "", "penfold/world", 0⟩, ⟨"fins", 47, 4, false, "", "penfold/world", 32⟩, ⟨"arena", 79, 5, false, "", "penfold/world", 56⟩, ⟨"ground", 80, 6, false, "", "penfold/world", 64⟩, ⟨"threads", 83, 7, false, "", "penfold/world", 72⟩, ⟨"ops", 37, 8, false, "", "penfold/world", 96⟩, ⟨"steps", 3, 9, false, "", "penfold/world", 120⟩], 10, 128, .agg #[.int .i64 0, .int .i64 0, .int .i64 0, .int .i64 0, .slice none 0 0, .pointer none, .pointer none, .slice none 0 0, .slice none 0 0, .int .i64 0], [(0, 4), (4, 1), (5, 1), (6, 1), (7, 1), (8, 1), (9, 1)], (some (.pair (.pair (.int .i64) (.pair (.int .i64) (.pair (.int .i64) (.int .i64)))) (.pair (.fj 9 1) (.pair (.ptr 1) (.pair (.ptr 3) (.pair (.fj 5 1) (.pair (.fj 7 14) (.int .i64)))))))), false⟩
theorem Pz:aR Tryz.prog 85 Iv:=au Tryz.underlying85 (aH (by kernel_rfl) rfl rfl) (fun fs h w=>by cases h;kernel_rfl) (aI rfl (by kernel_rfl) (by kernel_rfl))
def Iu : bL := ⟨.struct #[⟨"Op", 5, 0, false, "", "", 0⟩, ⟨"A", 3, 1, false, "", "", 8⟩, ⟨"B", 3, 2, false, "", "", 16⟩], 3, 24, .agg #[.int .u8 0, .int .i64 0, .int .i64 0], [(0, 1), (1, 1), (2, 1)], (some (.pair (.int .u8) (.pair (.int .i64) (.int .i64)))), false⟩
theorem Py:aR Tryz.prog 87 Iu:=au Tryz.underlying87 (aH (by kernel_rfl) rfl rfl) (fun fs h w=>by cases h;kernel_rfl) (aI rfl (by kernel_rfl) (by kernel_rfl))
def It : bL := ⟨.struct #[⟨"Op", 5, 0, false, "", "", 0⟩, ⟨"A", 3, 1, false, "", "", 8⟩, ⟨"B", 3, 2, false, "", "", 16⟩], 3, 24, .agg #[.int .u8 0, .int .i64 0, .int .i64 0], [(0, 1), (1, 1), (2, 1)], (some (.pair (.int .u8) (.pair (.int .i64) (.int .i64)))), false⟩
theorem Px:aR Tryz.prog 88 It:=au Tryz.underlying88 (aH (by kernel_rfl) rfl rfl) (fun fs h w=>by cases h;kernel_rfl) (aI rfl (by kernel_rfl) (by kernel_rfl))
def Is:bL:=⟨.pointer 96,1,8,.pointer none,[],(some (.ptr 6)),false⟩
theorem Pw:aR Tryz.prog 89 Is:=au Tryz.underlying89 (aH (by kernel_rfl) rfl rfl) (fun _ h=>by cases h) (aI rfl (by kernel_rfl) (by kernel_rfl))
def Ir:bL:=⟨.slice 92,1,24,.slice none 0 0,[],(some (.aF (.int .u64))),false⟩
theorem Pv:aR Tryz.prog 90 Ir:=au Tryz.underlying90 (aH (by kernel_rfl) rfl rfl) (fun _ h=>by cases h) (aI rfl (by kernel_rfl) (by kernel_rfl))
def Iq:bL:=⟨.slice 140,1,24,.slice none 0 0,[],(some (.aF (.pair (.int .i64) .bool))),false⟩
theorem Pu:aR Tryz.prog 91 Iq:=au Tryz.underlying91 (aH (by kernel_rfl) rfl rfl) (fun _ h=>by cases h) (aI rfl (by kernel_rfl) (by kernel_rfl))
def Ip:bL:=⟨.int .u64,1,8,.int .u64 0,[],(some (.int .u64)),false⟩
theorem Pt:aR Tryz.prog 92 Ip:=au Tryz.underlying92 (aH (by kernel_rfl) rfl rfl) (fun _ h=>by cases h) (aI rfl (by kernel_rfl) (by kernel_rfl))
def Io : bL := ⟨.struct #[⟨"Call", 40, 0, false, "", "", 0⟩, ⟨"Pc", 3, 7, false, "", "", 32⟩, ⟨"Area", 3, 8, false, "", "", 40⟩, ⟨"Hand", 92, 9, false, "", "", 48⟩, ⟨"Val", 92, 10, false, "", "", 56⟩, ⟨"Chain", 91, 11, false, "", "", 64⟩, ⟨"Word", 92, 12, false, "", "", 88⟩, ⟨"Next", 92, 13, false, "", "", 96⟩, ⟨"At", 3, 14, false, "", "", 104⟩, ⟨"Top", 3, 15, false, "", "", 112⟩, ⟨"List", 41, 16, false, "", "", 120⟩, ⟨"Op", 3, 17, false, "", "", 144⟩, ⟨"Said", 41, 18, false, "", "", 152⟩, ⟨"N", 3, 19, false, "", "", 176⟩, ⟨"Held", 4, 20, false, "", "", 184⟩, ⟨"Done", 4, 21, false, "", "", 185⟩, ⟨"Point", 4, 22, false, "", "", 186⟩, ⟨"Answer", 43, 23, false, "", "", 192⟩], 26, 232, .agg #[.int .u8 0, .int .u8 0, .int .u8 0, .int .u8 0, .int .i64 0, .int .i64 0, .int .i64 0, .int .i64 0, .int .i64 0, .int .u64 0, .int .u64 0, .slice none 0 0, .int .u64 0, .int .u64 0, .int .i64 0, .int .i64 0, .slice none 0 0, .int .i64 0, .slice none 0 0, .int .i64 0, .bool false, .bool false, .bool false, .int .i64 0, .int .i64 0, .slice none 0 0], [(0, 7), (7, 1), (8, 1), (9, 1), (10, 1), (11, 1), (12, 1), (13, 1), (14, 1), (15, 1), (16, 1), (17, 1), (18, 1), (19, 1), (20, 1), (21, 1), (22, 1), (23, 3)], (some (.pair (.pair (.int .u8) (.pair (.int .u8) (.pair (.int .u8) (.pair (.int .u8) (.pair (.int .i64) (.pair (.int .i64) (.int .i64))))))) (.pair (.int .i64) (.pair (.int .i64) (.pair (.int .u64) (.pair (.int .u64) (.pair (.aF (.pair (.int .i64) .bool)) (.pair (.int .u64) (.pair (.int .u64) (.pair (.int .i64) (.pair (.int .i64) (.pair (.aF (.int .i64)) (.pair (.int .i64) (.pair (.aF (.int .i64)) (.pair (.int .i64) (.pair .bool (.pair .bool (.pair .bool (.pair (.int .i64) (.pair (.int .i64) (.aF (.int .i64)))))))))))))))))))))), false⟩
theorem Ps:aR Tryz.prog 93 Io:=au Tryz.underlying93 (aH (by kernel_rfl) rfl rfl) (fun fs h w=>by cases h;kernel_rfl) (aI rfl (by kernel_rfl) (by kernel_rfl))
def Im : bL := ⟨.struct #[⟨"Call", 40, 0, false, "", "", 0⟩, ⟨"Pc", 3, 7, false, "", "", 32⟩, ⟨"Area", 3, 8, false, "", "", 40⟩, ⟨"Hand", 92, 9, false, "", "", 48⟩, ⟨"Val", 92, 10, false, "", "", 56⟩, ⟨"Chain", 91, 11, false, "", "", 64⟩, ⟨"Word", 92, 12, false, "", "", 88⟩, ⟨"Next", 92, 13, false, "", "", 96⟩, ⟨"At", 3, 14, false, "", "", 104⟩, ⟨"Top", 3, 15, false, "", "", 112⟩, ⟨"List", 41, 16, false, "", "", 120⟩, ⟨"Op", 3, 17, false, "", "", 144⟩, ⟨"Said", 41, 18, false, "", "", 152⟩, ⟨"N", 3, 19, false, "", "", 176⟩, ⟨"Held", 4, 20, false, "", "", 184⟩, ⟨"Done", 4, 21, false, "", "", 185⟩, ⟨"Point", 4, 22, false, "", "", 186⟩, ⟨"Answer", 43, 23, false, "", "", 192⟩], 26, 232, .agg #[.int .u8 0, .int .u8 0, .int .u8 0, .int .u8 0, .int .i64 0, .int .i64 0, .int .i64 0, .int .i64 0, .int .i64 0, .int .u64 0, .int .u64 0, .slice none 0 0, .int .u64 0, .int .u64 0, .int .i64 0, .int .i64 0, .slice none 0 0, .int .i64 0, .slice none 0 0, .int .i64 0, .bool false, .bool false, .bool false, .int .i64 0, .int .i64 0, .slice none 0 0], [(0, 7), (7, 1), (8, 1), (9, 1), (10, 1), (11, 1), (12, 1), (13, 1), (14, 1), (15, 1), (16, 1), (17, 1), (18, 1), (19, 1), (20, 1), (21, 1), (22, 1), (23, 3)], (some (.pair (.pair (.int .u8) (.pair (.int .u8) (.pair (.int .u8) (.pair (.int .u8) (.pair (.int .i64) (.pair (.int .i64) (.int .i64))))))) (.pair (.int .i64) (.pair (.int .i64) (.pair (.int .u64) (.pair (.int .u64) (.pair (.aF (.pair (.int .i64) .bool)) (.pair (.int .u64) (.pair (.int .u64) (.pair (.int .i64) (.pair (.int .i64) (.pair (.aF (.int .i64)) (.pair (.int .i64) (.pair (.aF (.int .i64)) (.pair (.int .i64) (.pair .bool (.pair .bool (.pair .bool (.pair (.int .i64) (.pair (.int .i64) (.aF (.int .i64)))))))))))))))))))))), false⟩
theorem Pr:aR Tryz.prog 94 Im:=au Tryz.underlying94 (aH (by kernel_rfl) rfl rfl) (fun fs h w=>by cases h;kernel_rfl) (aI rfl (by kernel_rfl) (by kernel_rfl))
def Il : bL := ⟨.struct #[⟨"calls", 30, 0, false, "", "penfold/world", 0⟩, ⟨"regs", 90, 1, false, "", "penfold/world", 24⟩, ⟨"entries", 91, 2, false, "", "penfold/world", 48⟩, ⟨"run", 94, 3, false, "", "penfold/world", 72⟩, ⟨"busy", 4, 29, false, "", "penfold/world", 304⟩, ⟨"at", 3, 30, false, "", "penfold/world", 312⟩], 31, 320, .agg #[.slice none 0 0, .slice none 0 0, .slice none 0 0, .int .u8 0, .int .u8 0, .int .u8 0, .int .u8 0, .int .i64 0, .int .i64 0, .int .i64 0, .int .i64 0, .int .i64 0, .int .u64 0, .int .u64 0, .slice none 0 0, .int .u64 0, .int .u64 0, .int .i64 0, .int .i64 0, .slice none 0 0, .int .i64 0, .slice none 0 0, .int .i64 0, .bool false, .bool false, .bool false, .int .i64 0, .int .i64 0, .slice none 0 0, .bool false, .int .i64 0], [(0, 1), (1, 1), (2, 1), (3, 26), (29, 1), (30, 1)], (some (.pair (.aF (.pair (.int .u8) (.pair (.int .u8) (.pair (.int .u8) (.pair (.int .u8) (.pair (.int .i64) (.pair (.int .i64) (.int .i64)))))))) (.pair (.aF (.int .u64)) (.pair (.aF (.pair (.int .i64) .bool)) (.pair (.pair (.pair (.int .u8) (.pair (.int .u8) (.pair (.int .u8) (.pair (.int .u8) (.pair (.int .i64) (.pair (.int .i64) (.int .i64))))))) (.pair (.int .i64) (.pair (.int .i64) (.pair (.int .u64) (.pair (.int .u64) (.pair (.aF (.pair (.int .i64) .bool)) (.pair (.int .u64) (.pair (.int .u64) (.pair (.int .i64) (.pair (.int .i64) (.pair (.aF (.int .i64)) (.pair (.int .i64) (.pair (.aF (.int .i64)) (.pair (.int .i64) (.pair .bool (.pair .bool (.pair .bool (.pair (.int .i64) (.pair (.int .i64) (.aF (.int .i64))))))))))))))))))))) (.pair .bool (.int .i64))))))), false⟩
theorem Pq:aR Tryz.prog 95 Il:=au Tryz.underlying95 (aH (by kernel_rfl) rfl rfl) (fun fs h w=>by cases h;kernel_rfl) (aI rfl (by kernel_rfl) (by kernel_rfl))
def Ik : bL := ⟨.struct #[⟨"calls", 30, 0, false, "", "penfold/world", 0⟩, ⟨"regs", 90, 1, false, "", "penfold/world", 24⟩, ⟨"entries", 91, 2, false, "", "penfold/world", 48⟩, ⟨"run", 94, 3, false, "", "penfold/world", 72⟩, ⟨"busy", 4, 29, false, "", "penfold/world", 304⟩, ⟨"at", 3, 30, false, "", "penfold/world", 312⟩], 31, 320, .agg #[.slice none 0 0, .slice none 0 0, .slice none 0 0, .int .u8 0, .int .u8 0, .int .u8 0, .int .u8 0, .int .i64 0, .int .i64 0, .int .i64 0, .int .i64 0, .int .i64 0, .int .u64 0, .int .u64 0, .slice none 0 0, .int .u64 0, .int .u64 0, .int .i64 0, .int .i64 0, .slice none 0 0, .int .i64 0, .slice none 0 0, .int .i64 0, .bool false, .bool false, .bool false, .int .i64 0, .int .i64 0, .slice none 0 0, .bool false, .int .i64 0], [(0, 1), (1, 1), (2, 1), (3, 26), (29, 1), (30, 1)], (some (.pair (.aF (.pair (.int .u8) (.pair (.int .u8) (.pair (.int .u8) (.pair (.int .u8) (.pair (.int .i64) (.pair (.int .i64) (.int .i64)))))))) (.pair (.fj 8 1) (.pair (.aF (.pair (.int .i64) .bool)) (.pair (.pair (.pair (.int .u8) (.pair (.int .u8) (.pair (.int .u8) (.pair (.int .u8) (.pair (.int .i64) (.pair (.int .i64) (.int .i64))))))) (.pair (.int .i64) (.pair (.int .i64) (.pair (.int .u64) (.pair (.int .u64) (.pair (.aF (.pair (.int .i64) .bool)) (.pair (.int .u64) (.pair (.int .u64) (.pair (.int .i64) (.pair (.int .i64) (.pair (.aF (.int .i64)) (.pair (.int .i64) (.pair (.aF (.int .i64)) (.pair (.int .i64) (.pair .bool (.pair .bool (.pair .bool (.pair (.int .i64) (.pair (.int .i64) (.aF (.int .i64))))))))))))))))))))) (.pair .bool (.int .i64))))))), false⟩
theorem Pp:aR Tryz.prog 96 Ik:=au Tryz.underlying96 (aH (by kernel_rfl) rfl rfl) (fun fs h w=>by cases h;kernel_rfl) (aI rfl (by kernel_rfl) (by kernel_rfl))
def CW:bL:=⟨.pointer 45,1,8,.pointer none,[],none,false⟩
theorem J6:aR Tryz.prog 109 CW:=au Tryz.underlying109 (aH (by kernel_rfl) rfl rfl) (fun _ h=>by cases h) (dU rfl)
def CV:bL:=⟨.func #[163,88] #[] false,1,8,.nilFunc,[],none,false⟩
theorem J5:aR Tryz.prog 113 CV:=au Tryz.underlying113 (aH (by kernel_rfl) rfl rfl) (fun _ h=>by cases h) (dU rfl)
def CU : bL := ⟨.struct #[⟨"a", 3, 0, false, "", "penfold/fin", 0⟩, ⟨"b", 3, 1, false, "", "penfold/fin", 8⟩, ⟨"do", 113, 2, false, "", "penfold/fin", 16⟩], 3, 24, .agg #[.int .i64 0, .int .i64 0, .nilFunc], [(0, 1), (1, 1), (2, 1)], none, false⟩
theorem J4:aR Tryz.prog 114 CU:=au Tryz.underlying114 (aH (by kernel_rfl) rfl rfl) (fun fs h w=>by cases h;kernel_rfl) (dU rfl)
def CT : bL := ⟨.struct #[⟨"a", 3, 0, false, "", "penfold/fin", 0⟩, ⟨"b", 3, 1, false, "", "penfold/fin", 8⟩, ⟨"do", 113, 2, false, "", "penfold/fin", 16⟩], 3, 24, .agg #[.int .i64 0, .int .i64 0, .nilFunc], [(0, 1), (1, 1), (2, 1)], none, false⟩
theorem J3:aR Tryz.prog 115 CT:=au Tryz.underlying115 (aH (by kernel_rfl) rfl rfl) (fun fs h w=>by cases h;kernel_rfl) (dU rfl)
def CS:bL:=⟨.array 5 115,15,120,.agg #[.int .i64 0,.int .i64 0,.nilFunc,.int .i64 0,.int .i64 0,.nilFunc,.int .i64 0,.int .i64 0,.nilFunc,.int .i64 0,.int .i64 0,.nilFunc,.int .i64 0,.int .i64 0,.nilFunc],[],none,false⟩
theorem J2:aR Tryz.prog 116 CS:=au Tryz.underlying116 (aH (by kernel_rfl) rfl rfl) (fun _ h=>by cases h) (dU rfl)
def CR : bL := ⟨.struct #[⟨"At", 3, 0, false, "", "", 0⟩, ⟨"Size", 3, 1, false, "", "", 8⟩], 2, 16, .agg #[.int .i64 0, .int .i64 0], [(0, 1), (1, 1)], (some (.pair (.int .i64) (.int .i64))), false⟩
theorem J1:aR Tryz.prog 122 CR:=au Tryz.underlying122 (aH (by kernel_rfl) rfl rfl) (fun fs h w=>by cases h;kernel_rfl) (aI rfl (by kernel_rfl) (by kernel_rfl))
def CQ : bL := ⟨.struct #[⟨"At", 3, 0, false, "", "", 0⟩, ⟨"Size", 3, 1, false, "", "", 8⟩], 2, 16, .agg #[.int .i64 0, .int .i64 0], [(0, 1), (1, 1)], (some (.pair (.int .i64) (.int .i64))), false⟩
theorem J0:aR Tryz.prog 123 CQ:=au Tryz.underlying123 (aH (by kernel_rfl) rfl rfl) (fun fs h w=>by cases h;kernel_rfl) (aI rfl (by kernel_rfl) (by kernel_rfl))
def CP : bL := ⟨.struct #[⟨"a", 79, 0, false, "", "penfold/found", 0⟩, ⟨"p", 35, 1, false, "", "penfold/found", 8⟩, ⟨"s", 3, 5, false, "", "penfold/found", 40⟩], 6, 48, .agg #[.pointer none, .int .i64 0, .int .i64 0, .int .i64 0, .int .i64 0, .int .i64 0], [(0, 1), (1, 4), (5, 1)], (some (.pair (.ptr 1) (.pair (.pair (.int .i64) (.pair (.int .i64) (.pair (.int .i64) (.int .i64)))) (.int .i64)))), false⟩
theorem JZ:aR Tryz.prog 128 CP:=au Tryz.underlying128 (aH (by kernel_rfl) rfl rfl) (fun fs h w=>by cases h;kernel_rfl) (aI rfl (by kernel_rfl) (by kernel_rfl))
def CO : bL := ⟨.struct #[⟨"a", 79, 0, false, "", "penfold/found", 0⟩, ⟨"p", 35, 1, false, "", "penfold/found", 8⟩, ⟨"s", 3, 5, false, "", "penfold/found", 40⟩], 6, 48, .agg #[.pointer none, .int .i64 0, .int .i64 0, .int .i64 0, .int .i64 0, .int .i64 0], [(0, 1), (1, 4), (5, 1)], (some (.pair (.ptr 1) (.pair (.pair (.int .i64) (.pair (.int .i64) (.pair (.int .i64) (.int .i64)))) (.int .i64)))), false⟩
theorem JY:aR Tryz.prog 129 CO:=au Tryz.underlying129 (aH (by kernel_rfl) rfl rfl) (fun fs h w=>by cases h;kernel_rfl) (aI rfl (by kernel_rfl) (by kernel_rfl))
def CN : bL := ⟨.struct #[⟨"State", 3, 0, false, "", "", 0⟩, ⟨"Count", 3, 1, false, "", "", 8⟩, ⟨"Parent", 3, 2, false, "", "", 16⟩, ⟨"Epoch", 3, 3, false, "", "", 24⟩], 4, 32, .agg #[.int .i64 0, .int .i64 0, .int .i64 0, .int .i64 0], [(0, 1), (1, 1), (2, 1), (3, 1)], (some (.pair (.int .i64) (.pair (.int .i64) (.pair (.int .i64) (.int .i64))))), false⟩
theorem JX:aR Tryz.prog 131 CN:=au Tryz.underlying131 (aH (by kernel_rfl) rfl rfl) (fun fs h w=>by cases h;kernel_rfl) (aI rfl (by kernel_rfl) (by kernel_rfl))
def CM : bL := ⟨.struct #[⟨"State", 3, 0, false, "", "", 0⟩, ⟨"Count", 3, 1, false, "", "", 8⟩, ⟨"Parent", 3, 2, false, "", "", 16⟩, ⟨"Epoch", 3, 3, false, "", "", 24⟩], 4, 32, .agg #[.int .i64 0, .int .i64 0, .int .i64 0, .int .i64 0], [(0, 1), (1, 1), (2, 1), (3, 1)], (some (.pair (.int .i64) (.pair (.int .i64) (.pair (.int .i64) (.int .i64))))), false⟩
theorem JW:aR Tryz.prog 132 CM:=au Tryz.underlying132 (aH (by kernel_rfl) rfl rfl) (fun fs h w=>by cases h;kernel_rfl) (aI rfl (by kernel_rfl) (by kernel_rfl))
def CL : bL := ⟨.struct #[⟨"p", 35, 0, false, "", "penfold/begin", 0⟩, ⟨"l", 91, 4, false, "", "penfold/begin", 32⟩, ⟨"c", 40, 5, false, "", "penfold/begin", 56⟩, ⟨"h", 92, 12, false, "", "penfold/begin", 88⟩, ⟨"v", 92, 13, false, "", "penfold/begin", 96⟩], 14, 104, .agg #[.int .i64 0, .int .i64 0, .int .i64 0, .int .i64 0, .slice none 0 0, .int .u8 0, .int .u8 0, .int .u8 0, .int .u8 0, .int .i64 0, .int .i64 0, .int .i64 0, .int .u64 0, .int .u64 0], [(0, 4), (4, 1), (5, 7), (12, 1), (13, 1)], (some (.pair (.pair (.int .i64) (.pair (.int .i64) (.pair (.int .i64) (.int .i64)))) (.pair (.aF (.pair (.int .i64) .bool)) (.pair (.pair (.int .u8) (.pair (.int .u8) (.pair (.int .u8) (.pair (.int .u8) (.pair (.int .i64) (.pair (.int .i64) (.int .i64))))))) (.pair (.int .u64) (.int .u64)))))), false⟩
theorem JV:aR Tryz.prog 135 CL:=au Tryz.underlying135 (aH (by kernel_rfl) rfl rfl) (fun fs h w=>by cases h;kernel_rfl) (aI rfl (by kernel_rfl) (by kernel_rfl))
def CK : bL := ⟨.struct #[⟨"p", 35, 0, false, "", "penfold/begin", 0⟩, ⟨"l", 91, 4, false, "", "penfold/begin", 32⟩, ⟨"c", 40, 5, false, "", "penfold/begin", 56⟩, ⟨"h", 92, 12, false, "", "penfold/begin", 88⟩, ⟨"v", 92, 13, false, "", "penfold/begin", 96⟩], 14, 104, .agg #[.int .i64 0, .int .i64 0, .int .i64 0, .int .i64 0, .slice none 0 0, .int .u8 0, .int .u8 0, .int .u8 0, .int .u8 0, .int .i64 0, .int .i64 0, .int .i64 0, .int .u64 0, .int .u64 0], [(0, 4), (4, 1), (5, 7), (12, 1), (13, 1)], (some (.pair (.pair (.int .i64) (.pair (.int .i64) (.pair (.int .i64) (.int .i64)))) (.pair (.aF (.pair (.int .i64) .bool)) (.pair (.pair (.int .u8) (.pair (.int .u8) (.pair (.int .u8) (.pair (.int .u8) (.pair (.int .i64) (.pair (.int .i64) (.int .i64))))))) (.pair (.int .u64) (.int .u64)))))), false⟩
theorem JU:aR Tryz.prog 136 CK:=au Tryz.underlying136 (aH (by kernel_rfl) rfl rfl) (fun fs h w=>by cases h;kernel_rfl) (aI rfl (by kernel_rfl) (by kernel_rfl))
def CJ : bL := ⟨.struct #[⟨"Scope", 3, 0, false, "", "", 0⟩, ⟨"Counted", 4, 1, false, "", "", 8⟩], 2, 16, .agg #[.int .i64 0, .bool false], [(0, 1), (1, 1)], (some (.pair (.int .i64) .bool)), false⟩
theorem JT:aR Tryz.prog 139 CJ:=au Tryz.underlying139 (aH (by kernel_rfl) rfl rfl) (fun fs h w=>by cases h;kernel_rfl) (aI rfl (by kernel_rfl) (by kernel_rfl))
def CI : bL := ⟨.struct #[⟨"Scope", 3, 0, false, "", "", 0⟩, ⟨"Counted", 4, 1, false, "", "", 8⟩], 2, 16, .agg #[.int .i64 0, .bool false], [(0, 1), (1, 1)], (some (.pair (.int .i64) .bool)), false⟩
theorem JS:aR Tryz.prog 140 CI:=au Tryz.underlying140 (aH (by kernel_rfl) rfl rfl) (fun fs h w=>by cases h;kernel_rfl) (aI rfl (by kernel_rfl) (by kernel_rfl))
def CH:bL:=⟨.array 4 92,4,32,.agg #[.int .u64 0,.int .u64 0,.int .u64 0,.int .u64 0],[],(some (.arr 4 (.int .u64))),false⟩
theorem JR:aR Tryz.prog 153 CH:=au Tryz.underlying153 (aH (by kernel_rfl) rfl rfl) (fun _ h=>by cases h) (aI rfl (by kernel_rfl) (by kernel_rfl))
def CG : bL := ⟨.struct #[⟨"L", 30, 0, false, "", "", 0⟩, ⟨"Regs", 153, 1, false, "", "", 24⟩, ⟨"C", 91, 5, false, "", "", 56⟩, ⟨"R", 94, 6, false, "", "", 80⟩, ⟨"At", 3, 32, false, "", "", 312⟩], 33, 320, .agg #[.slice none 0 0, .int .u64 0, .int .u64 0, .int .u64 0, .int .u64 0, .slice none 0 0, .int .u8 0, .int .u8 0, .int .u8 0, .int .u8 0, .int .i64 0, .int .i64 0, .int .i64 0, .int .i64 0, .int .i64 0, .int .u64 0, .int .u64 0, .slice none 0 0, .int .u64 0, .int .u64 0, .int .i64 0, .int .i64 0, .slice none 0 0, .int .i64 0, .slice none 0 0, .int .i64 0, .bool false, .bool false, .bool false, .int .i64 0, .int .i64 0, .slice none 0 0, .int .i64 0], [(0, 1), (1, 4), (5, 1), (6, 26), (32, 1)], (some (.pair (.aF (.pair (.int .u8) (.pair (.int .u8) (.pair (.int .u8) (.pair (.int .u8) (.pair (.int .i64) (.pair (.int .i64) (.int .i64)))))))) (.pair (.arr 4 (.int .u64)) (.pair (.aF (.pair (.int .i64) .bool)) (.pair (.pair (.pair (.int .u8) (.pair (.int .u8) (.pair (.int .u8) (.pair (.int .u8) (.pair (.int .i64) (.pair (.int .i64) (.int .i64))))))) (.pair (.int .i64) (.pair (.int .i64) (.pair (.int .u64) (.pair (.int .u64) (.pair (.aF (.pair (.int .i64) .bool)) (.pair (.int .u64) (.pair (.int .u64) (.pair (.int .i64) (.pair (.int .i64) (.pair (.aF (.int .i64)) (.pair (.int .i64) (.pair (.aF (.int .i64)) (.pair (.int .i64) (.pair .bool (.pair .bool (.pair .bool (.pair (.int .i64) (.pair (.int .i64) (.aF (.int .i64))))))))))))))))))))) (.int .i64)))))), false⟩
theorem JQ:aR Tryz.prog 154 CG:=au Tryz.underlying154 (aH (by kernel_rfl) rfl rfl) (fun fs h w=>by cases h;kernel_rfl) (aI rfl (by kernel_rfl) (by kernel_rfl))
def CF : bL := ⟨.struct #[⟨"L", 30, 0, false, "", "", 0⟩, ⟨"Regs", 153, 1, false, "", "", 24⟩, ⟨"C", 91, 5, false, "", "", 56⟩, ⟨"R", 94, 6, false, "", "", 80⟩, ⟨"At", 3, 32, false, "", "", 312⟩], 33, 320, .agg #[.slice none 0 0, .int .u64 0, .int .u64 0, .int .u64 0, .int .u64 0, .slice none 0 0, .int .u8 0, .int .u8 0, .int .u8 0, .int .u8 0, .int .i64 0, .int .i64 0, .int .i64 0, .int .i64 0, .int .i64 0, .int .u64 0, .int .u64 0, .slice none 0 0, .int .u64 0, .int .u64 0, .int .i64 0, .int .i64 0, .slice none 0 0, .int .i64 0, .slice none 0 0, .int .i64 0, .bool false, .bool false, .bool false, .int .i64 0, .int .i64 0, .slice none 0 0, .int .i64 0], [(0, 1), (1, 4), (5, 1), (6, 26), (32, 1)], (some (.pair (.aF (.pair (.int .u8) (.pair (.int .u8) (.pair (.int .u8) (.pair (.int .u8) (.pair (.int .i64) (.pair (.int .i64) (.int .i64)))))))) (.pair (.arr 4 (.int .u64)) (.pair (.aF (.pair (.int .i64) .bool)) (.pair (.pair (.pair (.int .u8) (.pair (.int .u8) (.pair (.int .u8) (.pair (.int .u8) (.pair (.int .i64) (.pair (.int .i64) (.int .i64))))))) (.pair (.int .i64) (.pair (.int .i64) (.pair (.int .u64) (.pair (.int .u64) (.pair (.aF (.pair (.int .i64) .bool)) (.pair (.int .u64) (.pair (.int .u64) (.pair (.int .i64) (.pair (.int .i64) (.pair (.aF (.int .i64)) (.pair (.int .i64) (.pair (.aF (.int .i64)) (.pair (.int .i64) (.pair .bool (.pair .bool (.pair .bool (.pair (.int .i64) (.pair (.int .i64) (.aF (.int .i64))))))))))))))))))))) (.int .i64)))))), false⟩
theorem JP:aR Tryz.prog 155 CF:=au Tryz.underlying155 (aH (by kernel_rfl) rfl rfl) (fun fs h w=>by cases h;kernel_rfl) (aI rfl (by kernel_rfl) (by kernel_rfl))
def CE:bL:=⟨.pointer 252,1,8,.pointer none,[],none,false⟩
theorem JO:aR Tryz.prog 157 CE:=au Tryz.underlying157 (aH (by kernel_rfl) rfl rfl) (fun _ h=>by cases h) (dU rfl)
def CD:bL:=⟨.pointer 255,1,8,.pointer none,[],none,false⟩
theorem JN:aR Tryz.prog 158 CD:=au Tryz.underlying158 (aH (by kernel_rfl) rfl rfl) (fun _ h=>by cases h) (dU rfl)
def CC : bL := ⟨.struct #[⟨"P", 35, 0, false, "", "", 0⟩, ⟨"F", 47, 4, false, "", "", 32⟩, ⟨"A", 157, 5, false, "", "", 56⟩, ⟨"G", 158, 6, false, "", "", 64⟩], 7, 72, .agg #[.int .i64 0, .int .i64 0, .int .i64 0, .int .i64 0, .slice none 0 0, .pointer none, .pointer none], [(0, 4), (4, 1), (5, 1), (6, 1)], none, false⟩
theorem JM:aR Tryz.prog 159 CC:=au Tryz.underlying159 (aH (by kernel_rfl) rfl rfl) (fun fs h w=>by cases h;kernel_rfl) (dU rfl)
def CA : bL := ⟨.struct #[⟨"P", 35, 0, false, "", "", 0⟩, ⟨"F", 47, 4, false, "", "", 32⟩, ⟨"A", 157, 5, false, "", "", 56⟩, ⟨"G", 158, 6, false, "", "", 64⟩], 7, 72, .agg #[.int .i64 0, .int .i64 0, .int .i64 0, .int .i64 0, .slice none 0 0, .pointer none, .pointer none], [(0, 4), (4, 1), (5, 1), (6, 1)], none, false⟩
theorem JL:aR Tryz.prog 160 CA:=au Tryz.underlying160 (aH (by kernel_rfl) rfl rfl) (fun fs h w=>by cases h;kernel_rfl) (dU rfl)
def Cz:bL:=⟨.pointer 165,1,8,.pointer none,[],none,false⟩
theorem JK:aR Tryz.prog 163 Cz:=au Tryz.underlying163 (aH (by kernel_rfl) rfl rfl) (fun _ h=>by cases h) (dU rfl)
def Cy : bL := ⟨.struct #[⟨"slots", 90, 0, false, "", "penfold/fin", 0⟩, ⟨"said", 41, 1, false, "", "penfold/fin", 24⟩, ⟨"held", 4, 2, false, "", "penfold/fin", 48⟩, ⟨"skip", 3, 3, false, "", "penfold/fin", 56⟩], 4, 64, .agg #[.slice none 0 0, .slice none 0 0, .bool false, .int .i64 0], [(0, 1), (1, 1), (2, 1), (3, 1)], (some (.pair (.aF (.int .u64)) (.pair (.aF (.int .i64)) (.pair .bool (.int .i64))))), false⟩
theorem JJ:aR Tryz.prog 164 Cy:=au Tryz.underlying164 (aH (by kernel_rfl) rfl rfl) (fun fs h w=>by cases h;kernel_rfl) (aI rfl (by kernel_rfl) (by kernel_rfl))
def Cw : bL := ⟨.struct #[⟨"slots", 90, 0, false, "", "penfold/fin", 0⟩, ⟨"said", 41, 1, false, "", "penfold/fin", 24⟩, ⟨"held", 4, 2, false, "", "penfold/fin", 48⟩, ⟨"skip", 3, 3, false, "", "penfold/fin", 56⟩], 4, 64, .agg #[.slice none 0 0, .slice none 0 0, .bool false, .int .i64 0], [(0, 1), (1, 1), (2, 1), (3, 1)], none, false⟩
theorem JI:aR Tryz.prog 165 Cw:=au Tryz.underlying165 (aH (by kernel_rfl) rfl rfl) (fun fs h w=>by cases h;kernel_rfl) (dU rfl)
def Cu:bL:=⟨.slice 5,1,24,.slice none 0 0,[],(some (.aF (.int .u8))),false⟩
theorem JH:aR Tryz.prog 167 Cu:=au Tryz.underlying167 (aH (by kernel_rfl) rfl rfl) (fun _ h=>by cases h) (aI rfl (by kernel_rfl) (by kernel_rfl))
def Ct : bL := ⟨.struct #[⟨"b", 167, 0, false, "", "penfold/arena", 0⟩], 1, 24, .agg #[.slice none 0 0], [(0, 1)], (some (.aF (.int .u8))), false⟩
theorem JG:aR Tryz.prog 168 Ct:=au Tryz.underlying168 (aH (by kernel_rfl) rfl rfl) (fun fs h w=>by cases h;kernel_rfl) (aI rfl (by kernel_rfl) (by kernel_rfl))
def Cs : bL := ⟨.struct #[⟨"b", 167, 0, false, "", "penfold/arena", 0⟩], 1, 24, .agg #[.slice none 0 0], [(0, 1)], (some (.fj 2 1)), false⟩
theorem JF:aR Tryz.prog 169 Cs:=au Tryz.underlying169 (aH (by kernel_rfl) rfl rfl) (fun fs h w=>by cases h;kernel_rfl) (aI rfl (by kernel_rfl) (by kernel_rfl))
def Cr:bL:=⟨.slice 123,1,24,.slice none 0 0,[],(some (.aF (.pair (.int .i64) (.int .i64)))),false⟩
theorem JE:aR Tryz.prog 170 Cr:=au Tryz.underlying170 (aH (by kernel_rfl) rfl rfl) (fun _ h=>by cases h) (aI rfl (by kernel_rfl) (by kernel_rfl))
def Cq : bL := ⟨.struct #[⟨"from", 3, 0, false, "", "penfold/ground", 0⟩, ⟨"end", 3, 1, false, "", "penfold/ground", 8⟩, ⟨"free", 170, 2, false, "", "penfold/ground", 16⟩], 3, 40, .agg #[.int .i64 0, .int .i64 0, .slice none 0 0], [(0, 1), (1, 1), (2, 1)], (some (.pair (.int .i64) (.pair (.int .i64) (.aF (.pair (.int .i64) (.int .i64)))))), false⟩
theorem JD:aR Tryz.prog 171 Cq:=au Tryz.underlying171 (aH (by kernel_rfl) rfl rfl) (fun fs h w=>by cases h;kernel_rfl) (aI rfl (by kernel_rfl) (by kernel_rfl))
def Cp : bL := ⟨.struct #[⟨"from", 3, 0, false, "", "penfold/ground", 0⟩, ⟨"end", 3, 1, false, "", "penfold/ground", 8⟩, ⟨"free", 170, 2, false, "", "penfold/ground", 16⟩], 3, 40, .agg #[.int .i64 0, .int .i64 0, .slice none 0 0], [(0, 1), (1, 1), (2, 1)], (some (.pair (.int .i64) (.pair (.int .i64) (.fj 4 2)))), false⟩
theorem JC:aR Tryz.prog 172 Cp:=au Tryz.underlying172 (aH (by kernel_rfl) rfl rfl) (fun fs h w=>by cases h;kernel_rfl) (aI rfl (by kernel_rfl) (by kernel_rfl))
def Co : bL := ⟨.struct #[⟨"Scope", 3, 0, false, "", "", 0⟩, ⟨"Epoch", 3, 1, false, "", "", 8⟩, ⟨"At", 3, 2, false, "", "", 16⟩], 3, 24, .agg #[.int .i64 0, .int .i64 0, .int .i64 0], [(0, 1), (1, 1), (2, 1)], (some (.pair (.int .i64) (.pair (.int .i64) (.int .i64)))), false⟩
theorem JB:aR Tryz.prog 180 Co:=au Tryz.underlying180 (aH (by kernel_rfl) rfl rfl) (fun fs h w=>by cases h;kernel_rfl) (aI rfl (by kernel_rfl) (by kernel_rfl))
def Cn : bL := ⟨.struct #[⟨"Scope", 3, 0, false, "", "", 0⟩, ⟨"Epoch", 3, 1, false, "", "", 8⟩, ⟨"At", 3, 2, false, "", "", 16⟩], 3, 24, .agg #[.int .i64 0, .int .i64 0, .int .i64 0], [(0, 1), (1, 1), (2, 1)], (some (.pair (.int .i64) (.pair (.int .i64) (.int .i64)))), false⟩
theorem JA:aR Tryz.prog 181 Cn:=au Tryz.underlying181 (aH (by kernel_rfl) rfl rfl) (fun fs h w=>by cases h;kernel_rfl) (aI rfl (by kernel_rfl) (by kernel_rfl))
def Cm:bL:=⟨.func #[193] #[] false,1,8,.nilFunc,[],none,false⟩
theorem Jz:aR Tryz.prog 192 Cm:=au Tryz.underlying192 (aH (by kernel_rfl) rfl rfl) (fun _ h=>by cases h) (dU rfl)
def Cl:bL:=⟨.pointer 197,1,8,.pointer none,[],none,false⟩
theorem Jy:aR Tryz.prog 193 Cl:=au Tryz.underlying193 (aH (by kernel_rfl) rfl rfl) (fun _ h=>by cases h) (dU rfl)
def Ck:bL:=⟨.map 3 192,1,8,.map none,[],none,false⟩
theorem Jx:aR Tryz.prog 194 Ck:=au Tryz.underlying194 (aH (by kernel_rfl) rfl rfl) (fun _ h=>by cases h) (dU rfl)
def Cj : bL := ⟨.struct #[⟨"p", 35, 0, false, "", "penfold/take", 0⟩, ⟨"a", 79, 4, false, "", "penfold/take", 32⟩, ⟨"r", 94, 5, false, "", "penfold/take", 40⟩], 31, 272, .agg #[.int .i64 0, .int .i64 0, .int .i64 0, .int .i64 0, .pointer none, .int .u8 0, .int .u8 0, .int .u8 0, .int .u8 0, .int .i64 0, .int .i64 0, .int .i64 0, .int .i64 0, .int .i64 0, .int .u64 0, .int .u64 0, .slice none 0 0, .int .u64 0, .int .u64 0, .int .i64 0, .int .i64 0, .slice none 0 0, .int .i64 0, .slice none 0 0, .int .i64 0, .bool false, .bool false, .bool false, .int .i64 0, .int .i64 0, .slice none 0 0], [(0, 4), (4, 1), (5, 26)], (some (.pair (.pair (.int .i64) (.pair (.int .i64) (.pair (.int .i64) (.int .i64)))) (.pair (.ptr 1) (.pair (.pair (.int .u8) (.pair (.int .u8) (.pair (.int .u8) (.pair (.int .u8) (.pair (.int .i64) (.pair (.int .i64) (.int .i64))))))) (.pair (.int .i64) (.pair (.int .i64) (.pair (.int .u64) (.pair (.int .u64) (.pair (.aF (.pair (.int .i64) .bool)) (.pair (.int .u64) (.pair (.int .u64) (.pair (.int .i64) (.pair (.int .i64) (.pair (.aF (.int .i64)) (.pair (.int .i64) (.pair (.aF (.int .i64)) (.pair (.int .i64) (.pair .bool (.pair .bool (.pair .bool (.pair (.int .i64) (.pair (.int .i64) (.aF (.int .i64)))))))))))))))))))))))), false⟩
theorem Jw:aR Tryz.prog 196 Cj:=au Tryz.underlying196 (aH (by kernel_rfl) rfl rfl) (fun fs h w=>by cases h;kernel_rfl) (aI rfl (by kernel_rfl) (by kernel_rfl))
def Ci : bL := ⟨.struct #[⟨"p", 35, 0, false, "", "penfold/take", 0⟩, ⟨"a", 79, 4, false, "", "penfold/take", 32⟩, ⟨"r", 94, 5, false, "", "penfold/take", 40⟩], 31, 272, .agg #[.int .i64 0, .int .i64 0, .int .i64 0, .int .i64 0, .pointer none, .int .u8 0, .int .u8 0, .int .u8 0, .int .u8 0, .int .i64 0, .int .i64 0, .int .i64 0, .int .i64 0, .int .i64 0, .int .u64 0, .int .u64 0, .slice none 0 0, .int .u64 0, .int .u64 0, .int .i64 0, .int .i64 0, .slice none 0 0, .int .i64 0, .slice none 0 0, .int .i64 0, .bool false, .bool false, .bool false, .int .i64 0, .int .i64 0, .slice none 0 0], [(0, 4), (4, 1), (5, 26)], (some (.pair (.pair (.int .i64) (.pair (.int .i64) (.pair (.int .i64) (.int .i64)))) (.pair (.ptr 1) (.pair (.pair (.int .u8) (.pair (.int .u8) (.pair (.int .u8) (.pair (.int .u8) (.pair (.int .i64) (.pair (.int .i64) (.int .i64))))))) (.pair (.int .i64) (.pair (.int .i64) (.pair (.int .u64) (.pair (.int .u64) (.pair (.aF (.pair (.int .i64) .bool)) (.pair (.int .u64) (.pair (.int .u64) (.pair (.int .i64) (.pair (.int .i64) (.pair (.aF (.int .i64)) (.pair (.int .i64) (.pair (.aF (.int .i64)) (.pair (.int .i64) (.pair .bool (.pair .bool (.pair .bool (.pair (.int .i64) (.pair (.int .i64) (.aF (.int .i64)))))))))))))))))))))))), false⟩
theorem Jv:aR Tryz.prog 197 Ci:=au Tryz.underlying197 (aH (by kernel_rfl) rfl rfl) (fun fs h w=>by cases h;kernel_rfl) (aI rfl (by kernel_rfl) (by kernel_rfl))
def Ch:bL:=⟨.pointer 200,1,8,.pointer none,[],none,false⟩
theorem Ju:aR Tryz.prog 198 Ch:=au Tryz.underlying198 (aH (by kernel_rfl) rfl rfl) (fun _ h=>by cases h) (dU rfl)
def Cg : bL := ⟨.struct #[⟨"a", 79, 0, false, "", "penfold/enter", 0⟩, ⟨"at", 3, 1, false, "", "penfold/enter", 8⟩, ⟨"r", 94, 2, false, "", "penfold/enter", 16⟩], 28, 248, .agg #[.pointer none, .int .i64 0, .int .u8 0, .int .u8 0, .int .u8 0, .int .u8 0, .int .i64 0, .int .i64 0, .int .i64 0, .int .i64 0, .int .i64 0, .int .u64 0, .int .u64 0, .slice none 0 0, .int .u64 0, .int .u64 0, .int .i64 0, .int .i64 0, .slice none 0 0, .int .i64 0, .slice none 0 0, .int .i64 0, .bool false, .bool false, .bool false, .int .i64 0, .int .i64 0, .slice none 0 0], [(0, 1), (1, 1), (2, 26)], (some (.pair (.ptr 1) (.pair (.int .i64) (.pair (.pair (.int .u8) (.pair (.int .u8) (.pair (.int .u8) (.pair (.int .u8) (.pair (.int .i64) (.pair (.int .i64) (.int .i64))))))) (.pair (.int .i64) (.pair (.int .i64) (.pair (.int .u64) (.pair (.int .u64) (.pair (.aF (.pair (.int .i64) .bool)) (.pair (.int .u64) (.pair (.int .u64) (.pair (.int .i64) (.pair (.int .i64) (.pair (.aF (.int .i64)) (.pair (.int .i64) (.pair (.aF (.int .i64)) (.pair (.int .i64) (.pair .bool (.pair .bool (.pair .bool (.pair (.int .i64) (.pair (.int .i64) (.aF (.int .i64)))))))))))))))))))))))), false⟩
theorem Jt:aR Tryz.prog 199 Cg:=au Tryz.underlying199 (aH (by kernel_rfl) rfl rfl) (fun fs h w=>by cases h;kernel_rfl) (aI rfl (by kernel_rfl) (by kernel_rfl))
def Cf : bL := ⟨.struct #[⟨"a", 79, 0, false, "", "penfold/enter", 0⟩, ⟨"at", 3, 1, false, "", "penfold/enter", 8⟩, ⟨"r", 94, 2, false, "", "penfold/enter", 16⟩], 28, 248, .agg #[.pointer none, .int .i64 0, .int .u8 0, .int .u8 0, .int .u8 0, .int .u8 0, .int .i64 0, .int .i64 0, .int .i64 0, .int .i64 0, .int .i64 0, .int .u64 0, .int .u64 0, .slice none 0 0, .int .u64 0, .int .u64 0, .int .i64 0, .int .i64 0, .slice none 0 0, .int .i64 0, .slice none 0 0, .int .i64 0, .bool false, .bool false, .bool false, .int .i64 0, .int .i64 0, .slice none 0 0], [(0, 1), (1, 1), (2, 26)], (some (.pair (.ptr 1) (.pair (.int .i64) (.pair (.pair (.int .u8) (.pair (.int .u8) (.pair (.int .u8) (.pair (.int .u8) (.pair (.int .i64) (.pair (.int .i64) (.int .i64))))))) (.pair (.int .i64) (.pair (.int .i64) (.pair (.int .u64) (.pair (.int .u64) (.pair (.aF (.pair (.int .i64) .bool)) (.pair (.int .u64) (.pair (.int .u64) (.pair (.int .i64) (.pair (.int .i64) (.pair (.aF (.int .i64)) (.pair (.int .i64) (.pair (.aF (.int .i64)) (.pair (.int .i64) (.pair .bool (.pair .bool (.pair .bool (.pair (.int .i64) (.pair (.int .i64) (.aF (.int .i64)))))))))))))))))))))))), false⟩
theorem Js:aR Tryz.prog 200 Cf:=au Tryz.underlying200 (aH (by kernel_rfl) rfl rfl) (fun fs h w=>by cases h;kernel_rfl) (aI rfl (by kernel_rfl) (by kernel_rfl))
def Ce:bL:=⟨.map 3 1,1,8,.map none,[],none,false⟩
theorem Jr:aR Tryz.prog 201 Ce:=au Tryz.underlying201 (aH (by kernel_rfl) rfl rfl) (fun _ h=>by cases h) (dU rfl)
def Cd:bL:=⟨.func #[207] #[] false,1,8,.nilFunc,[],none,false⟩
theorem Jq:aR Tryz.prog 203 Cd:=au Tryz.underlying203 (aH (by kernel_rfl) rfl rfl) (fun _ h=>by cases h) (dU rfl)
def Cc:bL:=⟨.map 3 203,1,8,.map none,[],none,false⟩
theorem Jp:aR Tryz.prog 205 Cc:=au Tryz.underlying205 (aH (by kernel_rfl) rfl rfl) (fun _ h=>by cases h) (dU rfl)
def Cb:bL:=⟨.pointer 209,1,8,.pointer none,[],none,false⟩
theorem Jo:aR Tryz.prog 207 Cb:=au Tryz.underlying207 (aH (by kernel_rfl) rfl rfl) (fun _ h=>by cases h) (dU rfl)
def Ca : bL := ⟨.struct #[⟨"p", 35, 0, false, "", "penfold/leave", 0⟩, ⟨"fins", 47, 4, false, "", "penfold/leave", 32⟩, ⟨"a", 79, 5, false, "", "penfold/leave", 56⟩, ⟨"r", 94, 6, false, "", "penfold/leave", 64⟩], 32, 296, .agg #[.int .i64 0, .int .i64 0, .int .i64 0, .int .i64 0, .slice none 0 0, .pointer none, .int .u8 0, .int .u8 0, .int .u8 0, .int .u8 0, .int .i64 0, .int .i64 0, .int .i64 0, .int .i64 0, .int .i64 0, .int .u64 0, .int .u64 0, .slice none 0 0, .int .u64 0, .int .u64 0, .int .i64 0, .int .i64 0, .slice none 0 0, .int .i64 0, .slice none 0 0, .int .i64 0, .bool false, .bool false, .bool false, .int .i64 0, .int .i64 0, .slice none 0 0], [(0, 4), (4, 1), (5, 1), (6, 26)], (some (.pair (.pair (.int .i64) (.pair (.int .i64) (.pair (.int .i64) (.int .i64)))) (.pair (.aF (.aF (.pair (.int .u8) (.pair (.int .i64) (.int .i64))))) (.pair (.ptr 1) (.pair (.pair (.int .u8) (.pair (.int .u8) (.pair (.int .u8) (.pair (.int .u8) (.pair (.int .i64) (.pair (.int .i64) (.int .i64))))))) (.pair (.int .i64) (.pair (.int .i64) (.pair (.int .u64) (.pair (.int .u64) (.pair (.aF (.pair (.int .i64) .bool)) (.pair (.int .u64) (.pair (.int .u64) (.pair (.int .i64) (.pair (.int .i64) (.pair (.aF (.int .i64)) (.pair (.int .i64) (.pair (.aF (.int .i64)) (.pair (.int .i64) (.pair .bool (.pair .bool (.pair .bool (.pair (.int .i64) (.pair (.int .i64) (.aF (.int .i64))))))))))))))))))))))))), false⟩
theorem Jn:aR Tryz.prog 208 Ca:=au Tryz.underlying208 (aH (by kernel_rfl) rfl rfl) (fun fs h w=>by cases h;kernel_rfl) (aI rfl (by kernel_rfl) (by kernel_rfl))
def B_ : bL := ⟨.struct #[⟨"p", 35, 0, false, "", "penfold/leave", 0⟩, ⟨"fins", 47, 4, false, "", "penfold/leave", 32⟩, ⟨"a", 79, 5, false, "", "penfold/leave", 56⟩, ⟨"r", 94, 6, false, "", "penfold/leave", 64⟩], 32, 296, .agg #[.int .i64 0, .int .i64 0, .int .i64 0, .int .i64 0, .slice none 0 0, .pointer none, .int .u8 0, .int .u8 0, .int .u8 0, .int .u8 0, .int .i64 0, .int .i64 0, .int .i64 0, .int .i64 0, .int .i64 0, .int .u64 0, .int .u64 0, .slice none 0 0, .int .u64 0, .int .u64 0, .int .i64 0, .int .i64 0, .slice none 0 0, .int .i64 0, .slice none 0 0, .int .i64 0, .bool false, .bool false, .bool false, .int .i64 0, .int .i64 0, .slice none 0 0], [(0, 4), (4, 1), (5, 1), (6, 26)], (some (.pair (.pair (.int .i64) (.pair (.int .i64) (.pair (.int .i64) (.int .i64)))) (.pair (.fj 9 1) (.pair (.ptr 1) (.pair (.pair (.int .u8) (.pair (.int .u8) (.pair (.int .u8) (.pair (.int .u8) (.pair (.int .i64) (.pair (.int .i64) (.int .i64))))))) (.pair (.int .i64) (.pair (.int .i64) (.pair (.int .u64) (.pair (.int .u64) (.pair (.aF (.pair (.int .i64) .bool)) (.pair (.int .u64) (.pair (.int .u64) (.pair (.int .i64) (.pair (.int .i64) (.pair (.aF (.int .i64)) (.pair (.int .i64) (.pair (.aF (.int .i64)) (.pair (.int .i64) (.pair .bool (.pair .bool (.pair .bool (.pair (.int .i64) (.pair (.int .i64) (.aF (.int .i64))))))))))))))))))))))))), false⟩
theorem Jm:aR Tryz.prog 209 B_:=au Tryz.underlying209 (aH (by kernel_rfl) rfl rfl) (fun fs h w=>by cases h;kernel_rfl) (aI rfl (by kernel_rfl) (by kernel_rfl))
def B9:bL:=⟨.pointer 212,1,8,.pointer none,[],none,false⟩
theorem Jl:aR Tryz.prog 210 B9:=au Tryz.underlying210 (aH (by kernel_rfl) rfl rfl) (fun _ h=>by cases h) (dU rfl)
def B8 : bL := ⟨.struct #[⟨"p", 35, 0, false, "", "penfold/slots", 0⟩, ⟨"a", 79, 4, false, "", "penfold/slots", 32⟩, ⟨"r", 94, 5, false, "", "penfold/slots", 40⟩, ⟨"refused", 23, 31, false, "", "penfold/slots", 272⟩], 32, 280, .agg #[.int .i64 0, .int .i64 0, .int .i64 0, .int .i64 0, .pointer none, .int .u8 0, .int .u8 0, .int .u8 0, .int .u8 0, .int .i64 0, .int .i64 0, .int .i64 0, .int .i64 0, .int .i64 0, .int .u64 0, .int .u64 0, .slice none 0 0, .int .u64 0, .int .u64 0, .int .i64 0, .int .i64 0, .slice none 0 0, .int .i64 0, .slice none 0 0, .int .i64 0, .bool false, .bool false, .bool false, .int .i64 0, .int .i64 0, .slice none 0 0, .int .i64 0], [(0, 4), (4, 1), (5, 26), (31, 1)], (some (.pair (.pair (.int .i64) (.pair (.int .i64) (.pair (.int .i64) (.int .i64)))) (.pair (.ptr 1) (.pair (.pair (.pair (.int .u8) (.pair (.int .u8) (.pair (.int .u8) (.pair (.int .u8) (.pair (.int .i64) (.pair (.int .i64) (.int .i64))))))) (.pair (.int .i64) (.pair (.int .i64) (.pair (.int .u64) (.pair (.int .u64) (.pair (.aF (.pair (.int .i64) .bool)) (.pair (.int .u64) (.pair (.int .u64) (.pair (.int .i64) (.pair (.int .i64) (.pair (.aF (.int .i64)) (.pair (.int .i64) (.pair (.aF (.int .i64)) (.pair (.int .i64) (.pair .bool (.pair .bool (.pair .bool (.pair (.int .i64) (.pair (.int .i64) (.aF (.int .i64))))))))))))))))))))) (.int .i64))))), false⟩
theorem Jk:aR Tryz.prog 211 B8:=au Tryz.underlying211 (aH (by kernel_rfl) rfl rfl) (fun fs h w=>by cases h;kernel_rfl) (aI rfl (by kernel_rfl) (by kernel_rfl))
def B7 : bL := ⟨.struct #[⟨"p", 35, 0, false, "", "penfold/slots", 0⟩, ⟨"a", 79, 4, false, "", "penfold/slots", 32⟩, ⟨"r", 94, 5, false, "", "penfold/slots", 40⟩, ⟨"refused", 23, 31, false, "", "penfold/slots", 272⟩], 32, 280, .agg #[.int .i64 0, .int .i64 0, .int .i64 0, .int .i64 0, .pointer none, .int .u8 0, .int .u8 0, .int .u8 0, .int .u8 0, .int .i64 0, .int .i64 0, .int .i64 0, .int .i64 0, .int .i64 0, .int .u64 0, .int .u64 0, .slice none 0 0, .int .u64 0, .int .u64 0, .int .i64 0, .int .i64 0, .slice none 0 0, .int .i64 0, .slice none 0 0, .int .i64 0, .bool false, .bool false, .bool false, .int .i64 0, .int .i64 0, .slice none 0 0, .int .i64 0], [(0, 4), (4, 1), (5, 26), (31, 1)], (some (.pair (.pair (.int .i64) (.pair (.int .i64) (.pair (.int .i64) (.int .i64)))) (.pair (.ptr 1) (.pair (.pair (.pair (.int .u8) (.pair (.int .u8) (.pair (.int .u8) (.pair (.int .u8) (.pair (.int .i64) (.pair (.int .i64) (.int .i64))))))) (.pair (.int .i64) (.pair (.int .i64) (.pair (.int .u64) (.pair (.int .u64) (.pair (.aF (.pair (.int .i64) .bool)) (.pair (.int .u64) (.pair (.int .u64) (.pair (.int .i64) (.pair (.int .i64) (.pair (.aF (.int .i64)) (.pair (.int .i64) (.pair (.aF (.int .i64)) (.pair (.int .i64) (.pair .bool (.pair .bool (.pair .bool (.pair (.int .i64) (.pair (.int .i64) (.aF (.int .i64))))))))))))))))))))) (.int .i64))))), false⟩
theorem Jj:aR Tryz.prog 212 B7:=au Tryz.underlying212 (aH (by kernel_rfl) rfl rfl) (fun fs h w=>by cases h;kernel_rfl) (aI rfl (by kernel_rfl) (by kernel_rfl))
def B6:bL:=⟨.int .u64,1,8,.int .u64 0,[],(some (.int .u64)),false⟩
theorem Ji:aR Tryz.prog 225 B6:=au Tryz.underlying225 (aH (by kernel_rfl) rfl rfl) (fun _ h=>by cases h) (aI rfl (by kernel_rfl) (by kernel_rfl))
def B5:bL:=⟨.slice 23,1,24,.slice none 0 0,[],(some (.aF (.int .i64))),false⟩
theorem Jh:aR Tryz.prog 230 B5:=au Tryz.underlying230 (aH (by kernel_rfl) rfl rfl) (fun _ h=>by cases h) (aI rfl (by kernel_rfl) (by kernel_rfl))
def B4:bL:=⟨.pointer 123,1,8,.pointer none,[],none,false⟩
theorem Jg:aR Tryz.prog 237 B4:=au Tryz.underlying237 (aH (by kernel_rfl) rfl rfl) (fun _ h=>by cases h) (dU rfl)
def B3 : bL := ⟨.struct #[⟨"Size", 3, 0, false, "", "", 0⟩, ⟨"Slots", 3, 1, false, "", "", 8⟩, ⟨"Tag", 3, 2, false, "", "", 16⟩, ⟨"Done", 4, 3, false, "", "", 24⟩, ⟨"Scope", 3, 4, false, "", "", 32⟩, ⟨"Epoch", 3, 5, false, "", "", 40⟩], 6, 48, .agg #[.int .i64 0, .int .i64 0, .int .i64 0, .bool false, .int .i64 0, .int .i64 0], [(0, 1), (1, 1), (2, 1), (3, 1), (4, 1), (5, 1)], (some (.pair (.int .i64) (.pair (.int .i64) (.pair (.int .i64) (.pair .bool (.pair (.int .i64) (.int .i64))))))), false⟩
theorem Jf:aR Tryz.prog 241 B3:=au Tryz.underlying241 (aH (by kernel_rfl) rfl rfl) (fun fs h w=>by cases h;kernel_rfl) (aI rfl (by kernel_rfl) (by kernel_rfl))
def B2 : bL := ⟨.struct #[⟨"Size", 3, 0, false, "", "", 0⟩, ⟨"Slots", 3, 1, false, "", "", 8⟩, ⟨"Tag", 3, 2, false, "", "", 16⟩, ⟨"Done", 4, 3, false, "", "", 24⟩, ⟨"Scope", 3, 4, false, "", "", 32⟩, ⟨"Epoch", 3, 5, false, "", "", 40⟩], 6, 48, .agg #[.int .i64 0, .int .i64 0, .int .i64 0, .bool false, .int .i64 0, .int .i64 0], [(0, 1), (1, 1), (2, 1), (3, 1), (4, 1), (5, 1)], (some (.pair (.int .i64) (.pair (.int .i64) (.pair (.int .i64) (.pair .bool (.pair (.int .i64) (.int .i64))))))), false⟩
theorem Je:aR Tryz.prog 242 B2:=au Tryz.underlying242 (aH (by kernel_rfl) rfl rfl) (fun fs h w=>by cases h;kernel_rfl) (aI rfl (by kernel_rfl) (by kernel_rfl))
def B1 : bL := ⟨.struct #[⟨"W", 90, 0, false, "", "", 0⟩], 1, 24, .agg #[.slice none 0 0], [(0, 1)], (some (.aF (.int .u64))), false⟩
theorem Jd:aR Tryz.prog 251 B1:=au Tryz.underlying251 (aH (by kernel_rfl) rfl rfl) (fun fs h w=>by cases h;kernel_rfl) (aI rfl (by kernel_rfl) (by kernel_rfl))
def B0 : bL := ⟨.struct #[⟨"W", 90, 0, false, "", "", 0⟩], 1, 24, .agg #[.slice none 0 0], [(0, 1)], (some (.aF (.int .u64))), false⟩
theorem Jc:aR Tryz.prog 252 B0:=au Tryz.underlying252 (aH (by kernel_rfl) rfl rfl) (fun fs h w=>by cases h;kernel_rfl) (aI rfl (by kernel_rfl) (by kernel_rfl))
def BZ:bL:=⟨.slice 4,1,24,.slice none 0 0,[],(some (.aF .bool)),false⟩
theorem Jb:aR Tryz.prog 253 BZ:=au Tryz.underlying253 (aH (by kernel_rfl) rfl rfl) (fun _ h=>by cases h) (aI rfl (by kernel_rfl) (by kernel_rfl))
def BY : bL := ⟨.struct #[⟨"At", 3, 0, false, "", "", 0⟩, ⟨"Free", 253, 1, false, "", "", 8⟩], 2, 32, .agg #[.int .i64 0, .slice none 0 0], [(0, 1), (1, 1)], (some (.pair (.int .i64) (.aF .bool))), false⟩
theorem Ja:aR Tryz.prog 254 BY:=au Tryz.underlying254 (aH (by kernel_rfl) rfl rfl) (fun fs h w=>by cases h;kernel_rfl) (aI rfl (by kernel_rfl) (by kernel_rfl))
def BX : bL := ⟨.struct #[⟨"At", 3, 0, false, "", "", 0⟩, ⟨"Free", 253, 1, false, "", "", 8⟩], 2, 32, .agg #[.int .i64 0, .slice none 0 0], [(0, 1), (1, 1)], (some (.pair (.int .i64) (.aF .bool))), false⟩
theorem I_:aR Tryz.prog 255 BX:=au Tryz.underlying255 (aH (by kernel_rfl) rfl rfl) (fun fs h w=>by cases h;kernel_rfl) (aI rfl (by kernel_rfl) (by kernel_rfl))
def BW:bL:=⟨.slice 41,1,24,.slice none 0 0,[],(some (.aF (.aF (.int .i64)))),false⟩
theorem I9:aR Tryz.prog 288 BW:=au Tryz.underlying288 (aH (by kernel_rfl) rfl rfl) (fun _ h=>by cases h) (aI rfl (by kernel_rfl) (by kernel_rfl))
def BV:bL:=⟨.int .u32,1,4,.int .u32 0,[],(some (.int .u32)),false⟩
theorem I8:aR Tryz.prog 299 BV:=au Tryz.underlying299 (aH (by kernel_rfl) rfl rfl) (fun _ h=>by cases h) (aI rfl (by kernel_rfl) (by kernel_rfl))
def BU:bL:=⟨.pointer 5,1,8,.pointer none,[],none,false⟩
theorem I7:aR Tryz.prog 303 BU:=au Tryz.underlying303 (aH (by kernel_rfl) rfl rfl) (fun _ h=>by cases h) (dU rfl)
theorem S7:dX Tryz.prog 34:=bN Tryz.stoodInHeld34 Tryz.eqGuardType34 Tryz.underlying34 (by decide)
theorem S6:dX Tryz.prog 35:=bN Tryz.stoodInHeld35 Tryz.eqGuardType35 Tryz.underlying35 (by decide)
theorem S4:dX Tryz.prog 39:=bN Tryz.stoodInHeld39 Tryz.eqGuardType39 Tryz.underlying39 (by decide)
theorem SZ:dX Tryz.prog 40:=bN Tryz.stoodInHeld40 Tryz.eqGuardType40 Tryz.underlying40 (by decide)
theorem SY:dX Tryz.prog 44:=bN Tryz.stoodInHeld44 Tryz.eqGuardType44 Tryz.underlying44 (by decide)
theorem SX:dX Tryz.prog 45:=bN Tryz.stoodInHeld45 Tryz.eqGuardType45 Tryz.underlying45 (by decide)
theorem SW:dX Tryz.prog 87:=bN Tryz.stoodInHeld87 Tryz.eqGuardType87 Tryz.underlying87 (by decide)
theorem SV:dX Tryz.prog 88:=bN Tryz.stoodInHeld88 Tryz.eqGuardType88 Tryz.underlying88 (by decide)
theorem NA:dX Tryz.prog 122:=bN Tryz.stoodInHeld122 Tryz.eqGuardType122 Tryz.underlying122 (by decide)
theorem Nz:dX Tryz.prog 123:=bN Tryz.stoodInHeld123 Tryz.eqGuardType123 Tryz.underlying123 (by decide)
theorem Ny:dX Tryz.prog 128:=bN Tryz.stoodInHeld128 Tryz.eqGuardType128 Tryz.underlying128 (by decide)
theorem Nx:dX Tryz.prog 129:=bN Tryz.stoodInHeld129 Tryz.eqGuardType129 Tryz.underlying129 (by decide)
theorem Nw:dX Tryz.prog 131:=bN Tryz.stoodInHeld131 Tryz.eqGuardType131 Tryz.underlying131 (by decide)
theorem Nv:dX Tryz.prog 132:=bN Tryz.stoodInHeld132 Tryz.eqGuardType132 Tryz.underlying132 (by decide)
theorem Nu:dX Tryz.prog 139:=bN Tryz.stoodInHeld139 Tryz.eqGuardType139 Tryz.underlying139 (by decide)
theorem Nt:dX Tryz.prog 140:=bN Tryz.stoodInHeld140 Tryz.eqGuardType140 Tryz.underlying140 (by decide)
theorem Ns:dX Tryz.prog 180:=bN Tryz.stoodInHeld180 Tryz.eqGuardType180 Tryz.underlying180 (by decide)
theorem Nr:dX Tryz.prog 181:=bN Tryz.stoodInHeld181 Tryz.eqGuardType181 Tryz.underlying181 (by decide)
theorem Nq:dX Tryz.prog 196:=bN Tryz.stoodInHeld196 Tryz.eqGuardType196 Tryz.underlying196 (by decide)
theorem Np:dX Tryz.prog 197:=bN Tryz.stoodInHeld197 Tryz.eqGuardType197 Tryz.underlying197 (by decide)
theorem No:dX Tryz.prog 199:=bN Tryz.stoodInHeld199 Tryz.eqGuardType199 Tryz.underlying199 (by decide)
theorem Nn:dX Tryz.prog 200:=bN Tryz.stoodInHeld200 Tryz.eqGuardType200 Tryz.underlying200 (by decide)
theorem Nm:dX Tryz.prog 211:=bN Tryz.stoodInHeld211 Tryz.eqGuardType211 Tryz.underlying211 (by decide)
theorem Nl:dX Tryz.prog 212:=bN Tryz.stoodInHeld212 Tryz.eqGuardType212 Tryz.underlying212 (by decide)
theorem Nk:dX Tryz.prog 241:=bN Tryz.stoodInHeld241 Tryz.eqGuardType241 Tryz.underlying241 (by decide)
theorem Nj:dX Tryz.prog 242:=bN Tryz.stoodInHeld242 Tryz.eqGuardType242 Tryz.underlying242 (by decide)
def env:Env:=⟨(.node (.node (.node (.node (.node (.node (.node (.node (.node .nil (some BX) .nil) none .nil) none (.node .nil none .nil)) (some IW) (.node (.node (.node .nil none .nil) (some CC) .nil) (some Il) (.node .nil none .nil))) none (.node (.node (.node (.node .nil none .nil) none .nil) (some Iz) (.node .nil (some Cb) .nil)) (some IJ) (.node (.node (.node .nil (some BU) .nil) none .nil) none (.node .nil none .nil)))) none (.node (.node (.node (.node (.node .nil none .nil) (some CL) .nil) none (.node .nil (some Cg) .nil)) (some IS) (.node (.node (.node .nil none .nil) (some Cu) .nil) none (.node .nil none .nil))) (some I1) (.node (.node (.node (.node .nil none .nil) none .nil) (some Iu) (.node .nil none .nil)) none (.node (.node .nil none .nil) none (.node .nil none .nil))))) (some VI) (.node (.node (.node (.node (.node (.node .nil none .nil) (some CN) .nil) (some ID) (.node .nil none .nil)) (some IU) (.node (.node (.node .nil none .nil) (some Cz) .nil) none (.node .nil none .nil))) none (.node (.node (.node (.node .nil none .nil) none .nil) (some Ix) (.node .nil (some B8) .nil)) none (.node (.node .nil none .nil) (some CT) (.node .nil none .nil)))) none (.node (.node (.node (.node (.node .nil none .nil) (some CJ) .nil) none (.node .nil (some Cd) .nil)) (some IM) (.node (.node (.node .nil (some BV) .nil) (some Cq) .nil) none (.node .nil none .nil))) (some I0) (.node (.node (.node (.node .nil none .nil) (some CF) .nil) (some Iq) (.node .nil none .nil)) none (.node (.node .nil none .nil) (some CQ) (.node .nil (some B1) .nil)))))) (some VL) (.node (.node (.node (.node (.node (.node (.node .nil none .nil) (some CO) .nil) none (.node .nil (some Cl) .nil)) none (.node (.node (.node .nil none .nil) none .nil) none (.node .nil (some B6) .nil))) none (.node (.node (.node (.node .nil none .nil) none .nil) none (.node .nil (some B_) .nil)) (some IH) (.node (.node .nil none .nil) (some CV) (.node .nil (some B3) .nil)))) (some VF) (.node (.node (.node (.node (.node .nil none .nil) none .nil) none (.node .nil (some Ce) .nil)) (some IP) (.node (.node (.node .nil none .nil) (some Cs) .nil) none (.node .nil none .nil))) none (.node (.node (.node (.node .nil none .nil) (some CH) .nil) (some Is) (.node .nil none .nil)) none (.node (.node .nil none .nil) none (.node .nil none .nil))))) (some VG) (.node (.node (.node (.node (.node (.node .nil none .nil) none .nil) (some IB) (.node .nil (some Ci) .nil)) (some IT) (.node (.node (.node .nil none .nil) (some Cw) .nil) none (.node .nil none .nil))) (some I2) (.node (.node (.node (.node .nil none .nil) none .nil) (some Iv) (.node .nil none .nil)) (some IG) (.node (.node .nil (some Cn) .nil) none (.node .nil none .nil)))) (some I3) (.node (.node (.node (.node (.node .nil none .nil) none .nil) none (.node .nil (some Cc) .nil)) (some IK) (.node (.node (.node .nil none .nil) none .nil) (some CW) (.node .nil (some B4) .nil))) (some IY) (.node (.node (.node (.node .nil none .nil) (some CE) .nil) (some Io) (.node .nil none .nil)) none (.node (.node .nil none .nil) none (.node .nil (some BZ) .nil))))))) none (.node (.node (.node (.node (.node (.node (.node (.node .nil none .nil) (some CP) .nil) (some IE) (.node .nil (some Cm) .nil)) none (.node (.node (.node .nil (some BW) .nil) (some CA) .nil) (some Ik) (.node .nil none .nil))) none (.node (.node (.node (.node .nil none .nil) none .nil) (some Iy) (.node .nil (some Ca) .nil)) (some II) (.node (.node .nil none .nil) none (.node .nil none .nil)))) none (.node (.node (.node (.node (.node .nil none .nil) (some CK) .nil) none (.node .nil (some Cf) .nil)) (some IQ) (.node (.node (.node .nil none .nil) (some Ct) .nil) none (.node .nil none .nil))) none (.node (.node (.node (.node .nil none .nil) none .nil) (some It) (.node .nil none .nil)) none (.node (.node .nil none .nil) none (.node .nil none .nil))))) (some VH) (.node (.node (.node (.node (.node (.node .nil none .nil) (some CM) .nil) (some IC) (.node .nil (some Cj) .nil)) none (.node (.node (.node .nil none .nil) (some Cy) .nil) none (.node .nil none .nil))) none (.node (.node (.node (.node .nil none .nil) none .nil) (some Iw) (.node .nil (some B7) .nil)) none (.node (.node .nil (some Co) .nil) (some CS) (.node .nil none .nil)))) (some I4) (.node (.node (.node (.node (.node .nil none .nil) (some CI) .nil) none (.node .nil none .nil)) (some IL) (.node (.node (.node .nil none .nil) (some Cp) .nil) none (.node .nil none .nil))) (some IZ) (.node (.node (.node (.node .nil none .nil) none .nil) (some Ip) (.node .nil none .nil)) none (.node (.node .nil none .nil) none (.node .nil (some B0) .nil)))))) (some VJ) (.node (.node (.node (.node (.node (.node (.node .nil none .nil) none .nil) none (.node .nil (some Ck) .nil)) (some IV) (.node (.node (.node .nil none .nil) none .nil) none (.node .nil none .nil))) none (.node (.node (.node (.node .nil none .nil) none .nil) none (.node .nil (some B9) .nil)) none (.node (.node .nil none .nil) (some CU) (.node .nil (some B2) .nil)))) none (.node (.node (.node (.node (.node .nil none .nil) none .nil) none (.node .nil none .nil)) (some IN) (.node (.node (.node .nil none .nil) (some Cr) .nil) none (.node .nil none .nil))) none (.node (.node (.node (.node .nil none .nil) (some CG) .nil) (some Ir) (.node .nil none .nil)) (some IF) (.node (.node .nil none .nil) (some CR) (.node .nil none .nil))))) none (.node (.node (.node (.node (.node (.node .nil none .nil) none .nil) (some IA) (.node .nil (some Ch) .nil)) none (.node (.node (.node .nil none .nil) none .nil) none (.node .nil (some B5) .nil))) none (.node (.node (.node (.node .nil none .nil) none .nil) none (.node .nil none .nil)) none (.node (.node .nil none .nil) none (.node .nil none .nil)))) none (.node (.node (.node (.node (.node .nil none .nil) none .nil) none (.node .nil none .nil)) none (.node (.node (.node .nil none .nil) none .nil) none (.node .nil none .nil))) (some IX) (.node (.node (.node (.node .nil none .nil) (some CD) .nil) (some Im) (.node .nil none .nil)) none (.node (.node .nil none .nil) none (.node .nil (some BY) .nil)))))))),[34,35,39,40,44,45,87,88,122,123,128,129,131,132,139,140,180,181,196,197,199,200,211,212,241,242]⟩
theorem qy:bt Tryz.prog env:=⟨zw (.no (.yes WR (.yes P1 (.no (.no (.yes PZ (.no (.no (.yes I_ (.nil _ _) (.nil _ _)) (.nil _ _)) (.no (.nil _ _) (.nil _ _))) (.yes Pq (.yes JM (.no (.nil _ _) (.nil _ _)) (.nil _ _)) (.no (.nil _ _) (.nil _ _)))) (.yes PO (.yes PE (.no (.no (.nil _ _) (.nil _ _)) (.nil _ _)) (.yes Jo (.nil _ _) (.nil _ _))) (.no (.no (.yes I7 (.nil _ _) (.nil _ _)) (.nil _ _)) (.no (.nil _ _) (.nil _ _))))) (.yes P5 (.yes PV (.no (.yes JV (.no (.nil _ _) (.nil _ _)) (.nil _ _)) (.yes Jt (.nil _ _) (.nil _ _))) (.no (.yes JH (.no (.nil _ _) (.nil _ _)) (.nil _ _)) (.no (.nil _ _) (.nil _ _)))) (.no (.yes Py (.no (.no (.nil _ _) (.nil _ _)) (.nil _ _)) (.no (.nil _ _) (.nil _ _))) (.no (.no (.nil _ _) (.nil _ _)) (.no (.nil _ _) (.nil _ _)))))) (.no (.no (.yes PX (.yes PI (.yes JX (.no (.nil _ _) (.nil _ _)) (.nil _ _)) (.no (.nil _ _) (.nil _ _))) (.no (.yes JK (.no (.nil _ _) (.nil _ _)) (.nil _ _)) (.no (.nil _ _) (.nil _ _)))) (.no (.yes PB (.no (.no (.nil _ _) (.nil _ _)) (.nil _ _)) (.yes Jk (.nil _ _) (.nil _ _))) (.yes J3 (.no (.nil _ _) (.nil _ _)) (.no (.nil _ _) (.nil _ _))))) (.yes P4 (.yes PS (.no (.yes JT (.no (.nil _ _) (.nil _ _)) (.nil _ _)) (.yes Jq (.nil _ _) (.nil _ _))) (.no (.yes JD (.yes I8 (.nil _ _) (.nil _ _)) (.nil _ _)) (.no (.nil _ _) (.nil _ _)))) (.no (.yes Pu (.yes JP (.no (.nil _ _) (.nil _ _)) (.nil _ _)) (.no (.nil _ _) (.nil _ _))) (.yes J0 (.no (.nil _ _) (.nil _ _)) (.yes Jd (.nil _ _) (.nil _ _))))))) (.yes WN (.yes WM (.no (.no (.no (.yes JY (.no (.nil _ _) (.nil _ _)) (.nil _ _)) (.yes Jy (.nil _ _) (.nil _ _))) (.no (.no (.no (.nil _ _) (.nil _ _)) (.nil _ _)) (.yes Ji (.nil _ _) (.nil _ _)))) (.yes PM (.no (.no (.no (.nil _ _) (.nil _ _)) (.nil _ _)) (.yes Jm (.nil _ _) (.nil _ _))) (.yes J5 (.no (.nil _ _) (.nil _ _)) (.yes Jf (.nil _ _) (.nil _ _))))) (.no (.yes zx (.no (.no (.no (.nil _ _) (.nil _ _)) (.nil _ _)) (.yes Jr (.nil _ _) (.nil _ _))) (.no (.yes JF (.no (.nil _ _) (.nil _ _)) (.nil _ _)) (.no (.nil _ _) (.nil _ _)))) (.no (.yes Pw (.yes JR (.no (.nil _ _) (.nil _ _)) (.nil _ _)) (.no (.nil _ _) (.nil _ _))) (.no (.no (.nil _ _) (.nil _ _)) (.no (.nil _ _) (.nil _ _)))))) (.yes P7 (.yes P6 (.yes PW (.yes PG (.no (.no (.nil _ _) (.nil _ _)) (.nil _ _)) (.yes Jv (.nil _ _) (.nil _ _))) (.no (.yes JI (.no (.nil _ _) (.nil _ _)) (.nil _ _)) (.no (.nil _ _) (.nil _ _)))) (.yes PL (.yes Pz (.no (.no (.nil _ _) (.nil _ _)) (.nil _ _)) (.no (.nil _ _) (.nil _ _))) (.no (.yes JA (.nil _ _) (.nil _ _)) (.no (.nil _ _) (.nil _ _))))) (.yes P2 (.yes PQ (.no (.no (.no (.nil _ _) (.nil _ _)) (.nil _ _)) (.yes Jp (.nil _ _) (.nil _ _))) (.yes J6 (.no (.no (.nil _ _) (.nil _ _)) (.nil _ _)) (.yes Jg (.nil _ _) (.nil _ _)))) (.no (.yes Ps (.yes JO (.no (.nil _ _) (.nil _ _)) (.nil _ _)) (.no (.nil _ _) (.nil _ _))) (.no (.no (.nil _ _) (.nil _ _)) (.yes Jb (.nil _ _) (.nil _ _)))))))) (.yes WQ (.yes WO (.no (.no (.no (.yes PJ (.yes JZ (.no (.nil _ _) (.nil _ _)) (.nil _ _)) (.yes Jz (.nil _ _) (.nil _ _))) (.yes Pp (.yes JL (.yes I9 (.nil _ _) (.nil _ _)) (.nil _ _)) (.no (.nil _ _) (.nil _ _)))) (.yes PN (.yes PD (.no (.no (.nil _ _) (.nil _ _)) (.nil _ _)) (.yes Jn (.nil _ _) (.nil _ _))) (.no (.no (.nil _ _) (.nil _ _)) (.no (.nil _ _) (.nil _ _))))) (.no (.yes PU (.no (.yes JU (.no (.nil _ _) (.nil _ _)) (.nil _ _)) (.yes Js (.nil _ _) (.nil _ _))) (.no (.yes JG (.no (.nil _ _) (.nil _ _)) (.nil _ _)) (.no (.nil _ _) (.nil _ _)))) (.no (.yes Px (.no (.no (.nil _ _) (.nil _ _)) (.nil _ _)) (.no (.nil _ _) (.nil _ _))) (.no (.no (.nil _ _) (.nil _ _)) (.no (.nil _ _) (.nil _ _)))))) (.yes P8 (.no (.no (.yes PH (.yes JW (.no (.nil _ _) (.nil _ _)) (.nil _ _)) (.yes Jw (.nil _ _) (.nil _ _))) (.no (.yes JJ (.no (.nil _ _) (.nil _ _)) (.nil _ _)) (.no (.nil _ _) (.nil _ _)))) (.no (.yes PA (.no (.no (.nil _ _) (.nil _ _)) (.nil _ _)) (.yes Jj (.nil _ _) (.nil _ _))) (.yes J2 (.yes JB (.nil _ _) (.nil _ _)) (.no (.nil _ _) (.nil _ _))))) (.yes P3 (.yes PR (.no (.yes JS (.no (.nil _ _) (.nil _ _)) (.nil _ _)) (.no (.nil _ _) (.nil _ _))) (.no (.yes JC (.no (.nil _ _) (.nil _ _)) (.nil _ _)) (.no (.nil _ _) (.nil _ _)))) (.no (.yes Pt (.no (.no (.nil _ _) (.nil _ _)) (.nil _ _)) (.no (.nil _ _) (.nil _ _))) (.no (.no (.nil _ _) (.nil _ _)) (.yes Jc (.nil _ _) (.nil _ _))))))) (.no (.no (.no (.yes PY (.no (.no (.no (.nil _ _) (.nil _ _)) (.nil _ _)) (.yes Jx (.nil _ _) (.nil _ _))) (.no (.no (.no (.nil _ _) (.nil _ _)) (.nil _ _)) (.no (.nil _ _) (.nil _ _)))) (.no (.no (.no (.no (.nil _ _) (.nil _ _)) (.nil _ _)) (.yes Jl (.nil _ _) (.nil _ _))) (.yes J4 (.no (.nil _ _) (.nil _ _)) (.yes Je (.nil _ _) (.nil _ _))))) (.no (.yes PT (.no (.no (.no (.nil _ _) (.nil _ _)) (.nil _ _)) (.no (.nil _ _) (.nil _ _))) (.no (.yes JE (.no (.nil _ _) (.nil _ _)) (.nil _ _)) (.no (.nil _ _) (.nil _ _)))) (.yes PK (.yes Pv (.yes JQ (.no (.nil _ _) (.nil _ _)) (.nil _ _)) (.no (.nil _ _) (.nil _ _))) (.yes J1 (.no (.nil _ _) (.nil _ _)) (.no (.nil _ _) (.nil _ _)))))) (.no (.no (.no (.yes PF (.no (.no (.nil _ _) (.nil _ _)) (.nil _ _)) (.yes Ju (.nil _ _) (.nil _ _))) (.no (.no (.no (.nil _ _) (.nil _ _)) (.nil _ _)) (.yes Jh (.nil _ _) (.nil _ _)))) (.no (.no (.no (.no (.nil _ _) (.nil _ _)) (.nil _ _)) (.no (.nil _ _) (.nil _ _))) (.no (.no (.nil _ _) (.nil _ _)) (.no (.nil _ _) (.nil _ _))))) (.yes P0 (.no (.no (.no (.no (.nil _ _) (.nil _ _)) (.nil _ _)) (.no (.nil _ _) (.nil _ _))) (.no (.no (.no (.nil _ _) (.nil _ _)) (.nil _ _)) (.no (.nil _ _) (.nil _ _)))) (.no (.yes Pr (.yes JN (.no (.nil _ _) (.nil _ _)) (.nil _ _)) (.no (.nil _ _) (.nil _ _))) (.no (.no (.nil _ _) (.nil _ _)) (.yes Ja (.nil _ _) (.nil _ _))))))))),FL (.cons S7 (.cons S6 (.cons S4 (.cons SZ (.cons SY (.cons SX (.cons SW (.cons SV (.cons NA (.cons Nz (.cons Ny (.cons Nx (.cons Nw (.cons Nv (.cons Nu (.cons Nt (.cons Ns (.cons Nr (.cons Nq (.cons Np (.cons No (.cons Nn (.cons Nm (.cons Nl (.cons Nk (.cons Nj (.nil))))))))))))))))))))))))))),by kernel_rfl⟩
def homes:List (Nat×Nat):=[(85,0),(96,6),(169,1),(172,3)]
open Go.Bm
set_option maxRecDepth 100000
def x3:aw:=comp (ar Tryz.f3) (.n none .o (.n none .o (.n none .o (.n none .o (.n none .o (.n none .o (.n (some ⟨[(9,false,(.int .i64))],[],[],[],[],[]⟩) .o .o)))))))
def x9:aw:=comp (ar Tryz.f9) (.n none .o (.n none .o (.n none .o (.n (some ⟨[],[],[],[],[],[]⟩) .o .o))))
def qR:aw:=comp (ar Tryz.f10) .o
def qQ:aw:=comp (ar Tryz.f11) (.n none .o (.n none .o (.n (some ⟨[],[],[],[],[],[]⟩) .o (.n none .o (.n none .o (.n none (.n none .o (.n none (.n (some ⟨[(50,false,(.int .i64))],[],[],[],[],[(0,R0),(9,R9)]⟩) .o .o) .o)) (.n none (.n none .o (.n none (.n (some ⟨[(68,false,(.int .i64))],[],[],[],[],[(0,R0),(5,R5),(6,R6),(8,R8)]⟩) (.n none .o (.n none .o (.n none (.n none (.n none .o (.n none .o (.n (some ⟨[],[],[],[],[],[(6,R6)]⟩) .o .o))) .o) .o))) .o) .o)) .o)))))))
def pC:aw:=comp (ar Tryz.f17) (.n none .o (.n none (.n none .o (.n none .o (.n none (.n none .o (.n none (.n (some ⟨[(11,false,(.int .i64))],[(3,(.int .i64))],[],[],[],[]⟩) .o .o) .o)) .o))) .o))
def pB:aw:=comp (ar Tryz.f18) (.n none .o (.n none .o (.n none .o (.n none .o (.n (some ⟨[],[],[],[],[],[(0,R0),(6,R6),(7,R7)]⟩) .o (.n (some ⟨[],[],[],[],[],[(1,R1),(2,R2),(3,R3),(4,R4),(6,R6),(9,R9)]⟩) .o (.n none .o (.n (some ⟨[],[],[],[],[],[(7,R7)]⟩) .o (.n (some ⟨[],[],[],[],[],[(6,R6),(7,R7),(8,R8)]⟩) .o .o)))))))))
def tU:aw:=comp (ar Tryz.f26) .o
def tT:aw:=comp (ar Tryz.f27) .o
def tS:aw:=comp (ar Tryz.f28) (.n none .o (.n none .o (.n none (.n none .o (.n none (.n (some ⟨[(11,false,(.int .i64))],[],[],[],[],[]⟩) (.n none .o (.n none .o (.n none (.n none (.n none .o (.n none (.n none .o (.n none (.n (some ⟨[(17,false,(.int .i64))],[],[],[],[],[]⟩) .o .o) .o)) .o)) .o) .o))) .o) .o)) .o)))
def tR:aw:=comp (ar Tryz.f29) .o
def tQ:aw:=comp (ar Tryz.f30) .o
def tP:aw:=comp (ar Tryz.f31) .o
def tO:aw:=comp (ar Tryz.f32) .o
def tN:aw:=comp (ar Tryz.f36) .o
def tM:aw:=comp (ar Tryz.f37) .o
def tL:aw:=comp (ar Tryz.f38) .o
def VC:aw:=comp (ar Tryz.f39) .o
def VB:aw:=comp (ar Tryz.f40) .o
def VA:aw:=comp (ar Tryz.f41) (.n none .o (.n none .o (.n none .o (.n none .o (.n none .o (.n none .o (.n none (.n none .o (.n none .o (.n (some ⟨[(36,false,.bool)],[],[],[],[],[]⟩) .o .o))) .o)))))))
def Vz:aw:=comp (ar Tryz.f46) .o
def Vy:aw:=comp (ar Tryz.f47) (.n none .o (.n none (.n none .o (.n none (.n (some ⟨[(8,false,(.int .i64))],[],[],[],[],[]⟩) .o .o) .o)) .o))
def Vx:aw:=comp (ar Tryz.f48) .o
def Vw:aw:=comp (ar Tryz.f49) .o
def Vv:aw:=comp (ar Tryz.f50) .o
def Vu:aw:=comp (ar Tryz.f51) (.n none .o (.n (some ⟨[],[],[],[],[],[]⟩) .o .o))
def Vt:aw:=comp (ar Tryz.f52) .o
def Vr:aw:=comp (ar Tryz.f53) .o
def Vq:aw:=comp (ar Tryz.f54) .o
def Vp:aw:=comp (ar Tryz.f55) .o
def Vo:aw:=comp (ar Tryz.f56) .o
def Vn:aw:=comp (ar Tryz.f57) .o
def Vm:aw:=comp (ar Tryz.f58) (.n none .o (.n none .o (.n none .o (.n none .o (.n none .o (.n none .o (.n none (.n none .o (.n none (.n none .o (.n none .o (.n none .o (.n none .o (.n none .o (.n none .o (.n none .o (.n none .o (.n none .o (.n none .o (.n none .o (.n none .o (.n none .o (.n none .o (.n none .o (.n none .o (.n none .o (.n none .o (.n none .o (.n none .o (.n none .o (.n none .o (.n none .o (.n none (.n (some ⟨[(13,false,(.int .i64))],[],[],[],[],[]⟩) .o .o) .o)))))))))))))))))))))))) .o)) .o)))))))
def Vl:aw:=comp (ar Tryz.f59) (.n none .o (.n none (.n none .o (.n none (.n (some ⟨[(6,false,.bool)],[],[],[],[],[]⟩) .o (.n none .o (.n none .o (.n none .o (.n none .o (.n none .o (.n (some ⟨[(22,false,.bool)],[],[],[],[],[]⟩) .o .o))))))) .o)) .o))
def Vk:aw:=comp (ar Tryz.f60) .o
def Vj:aw:=comp (ar Tryz.f61) (.n none .o (.n (some ⟨[],[],[],[((8,none),[(false,(.int .u8)),(false,(.int .u8)),(false,(.int .u8)),(false,(.int .u8)),(false,(.int .i64)),(false,(.int .i64)),(false,(.int .i64)),(false,(.int .i64)),(false,(.int .i64)),(false,(.int .u64)),(false,(.int .u64)),(false,(.aF (.pair (.int .i64) .bool))),(false,(.int .u64)),(false,(.int .u64)),(false,(.int .i64)),(false,(.int .i64)),(false,(.aF (.int .i64))),(false,(.int .i64)),(false,(.aF (.int .i64))),(false,(.int .i64)),(false,.bool),(false,.bool),(false,.bool),(false,(.int .i64)),(false,(.int .i64)),(false,(.aF (.int .i64)))])],[],[]⟩) .o (.n none .o (.n none (.n none .o (.n none (.n (some ⟨[(42,false,(.int .i64))],[],[],[((8,none),[(false,(.int .u8)),(false,(.int .u8)),(false,(.int .u8)),(false,(.int .u8)),(false,(.int .i64)),(false,(.int .i64)),(false,(.int .i64)),(false,(.int .i64)),(false,(.int .i64)),(false,(.int .u64)),(false,(.int .u64)),(false,(.aF (.pair (.int .i64) .bool))),(false,(.int .u64)),(false,(.int .u64)),(false,(.int .i64)),(false,(.int .i64)),(false,(.aF (.int .i64))),(false,(.int .i64)),(false,(.aF (.int .i64))),(false,(.int .i64)),(false,.bool),(false,.bool),(false,.bool),(false,(.int .i64)),(false,(.int .i64)),(false,(.aF (.int .i64)))])],[],[(2,R2),(3,R3),(4,R4)]⟩) .o .o) .o)) .o))))
def Vi:aw:=comp (ar Tryz.f62) (.n none .o (.n none .o (.n none .o (.n (some ⟨[],[],[],[((6,none),[(false,(.int .u8)),(false,(.int .u8)),(false,(.int .u8)),(false,(.int .u8)),(false,(.int .i64)),(false,(.int .i64)),(false,(.int .i64)),(false,(.int .i64)),(false,(.int .i64)),(false,(.int .u64)),(false,(.int .u64)),(false,(.aF (.pair (.int .i64) .bool))),(false,(.int .u64)),(false,(.int .u64)),(false,(.int .i64)),(false,(.int .i64)),(false,(.aF (.int .i64))),(false,(.int .i64)),(false,(.aF (.int .i64))),(false,(.int .i64)),(false,.bool),(false,.bool),(false,.bool),(false,(.int .i64)),(false,(.int .i64)),(false,(.aF (.int .i64)))])],[],[]⟩) .o .o))))
def Vh:aw:=comp (ar Tryz.f63) (.n none .o (.n none .o (.n none .o (.n none .o (.n none .o (.n (some ⟨[],[],[],[((6,none),[(false,(.int .u8)),(false,(.int .u8)),(false,(.int .u8)),(false,(.int .u8)),(false,(.int .i64)),(false,(.int .i64)),(false,(.int .i64)),(false,(.int .i64)),(false,(.int .i64)),(false,(.int .u64)),(false,(.int .u64)),(false,(.aF (.pair (.int .i64) .bool))),(false,(.int .u64)),(false,(.int .u64)),(false,(.int .i64)),(false,(.int .i64)),(false,(.aF (.int .i64))),(false,(.int .i64)),(false,(.aF (.int .i64))),(false,(.int .i64)),(false,.bool),(false,.bool),(false,.bool),(false,(.int .i64)),(false,(.int .i64)),(false,(.aF (.int .i64)))])],[],[]⟩) .o .o))))))
def Vg:aw:=comp (ar Tryz.f64) (.n none .o (.n none .o (.n (some ⟨[],[],[],[((8,none),[(false,(.int .u8)),(false,(.int .u8)),(false,(.int .u8)),(false,(.int .u8)),(false,(.int .i64)),(false,(.int .i64)),(false,(.int .i64)),(false,(.int .i64)),(false,(.int .i64)),(false,(.int .u64)),(false,(.int .u64)),(false,(.aF (.pair (.int .i64) .bool))),(false,(.int .u64)),(false,(.int .u64)),(false,(.int .i64)),(false,(.int .i64)),(false,(.aF (.int .i64))),(false,(.int .i64)),(false,(.aF (.int .i64))),(false,(.int .i64)),(false,.bool),(false,.bool),(false,.bool),(false,(.int .i64)),(false,(.int .i64)),(false,(.aF (.int .i64)))])],[],[]⟩) .o .o)))
def Vf:aw:=comp (ar Tryz.f65) (.n none .o (.n (some ⟨[],[],[],[((6,none),[(false,(.int .u8)),(false,(.int .u8)),(false,(.int .u8)),(false,(.int .u8)),(false,(.int .i64)),(false,(.int .i64)),(false,(.int .i64)),(false,(.int .i64)),(false,(.int .i64)),(false,(.int .u64)),(false,(.int .u64)),(false,(.aF (.pair (.int .i64) .bool))),(false,(.int .u64)),(false,(.int .u64)),(false,(.int .i64)),(false,(.int .i64)),(false,(.aF (.int .i64))),(false,(.int .i64)),(false,(.aF (.int .i64))),(false,(.int .i64)),(false,.bool),(false,.bool),(false,.bool),(false,(.int .i64)),(false,(.int .i64)),(false,(.aF (.int .i64)))])],[],[]⟩) .o (.n none .o (.n (some ⟨[],[],[],[((8,none),[(false,(.int .i64)),(false,(.int .i64)),(false,(.int .i64)),(false,(.int .i64)),(false,(.ptr 1)),(false,(.int .u8)),(false,(.int .u8)),(false,(.int .u8)),(false,(.int .u8)),(false,(.int .i64)),(false,(.int .i64)),(false,(.int .i64)),(false,(.int .i64)),(false,(.int .i64)),(false,(.int .u64)),(false,(.int .u64)),(false,(.aF (.pair (.int .i64) .bool))),(false,(.int .u64)),(false,(.int .u64)),(false,(.int .i64)),(false,(.int .i64)),(false,(.aF (.int .i64))),(false,(.int .i64)),(false,(.aF (.int .i64))),(false,(.int .i64)),(false,.bool),(false,.bool),(false,.bool),(false,(.int .i64)),(false,(.int .i64)),(false,(.aF (.int .i64))),(false,(.int .i64))]),((6,none),[(false,(.int .u8)),(false,(.int .u8)),(false,(.int .u8)),(false,(.int .u8)),(false,(.int .i64)),(false,(.int .i64)),(false,(.int .i64)),(false,(.int .i64)),(false,(.int .i64)),(false,(.int .u64)),(false,(.int .u64)),(false,(.aF (.pair (.int .i64) .bool))),(false,(.int .u64)),(false,(.int .u64)),(false,(.int .i64)),(false,(.int .i64)),(false,(.aF (.int .i64))),(false,(.int .i64)),(false,(.aF (.int .i64))),(false,(.int .i64)),(false,.bool),(false,.bool),(false,.bool),(false,(.int .i64)),(false,(.int .i64)),(false,(.aF (.int .i64)))])],[],[(2,R2)]⟩) (.n none .o (.n none (.n none .o (.n none .o (.n none .o (.n none .o (.n none .o (.n none .o (.n none .o (.n none .o (.n (some ⟨[(9,false,(.int .i64))],[],[],[],[],[(2,R2)]⟩) .o .o))))))))) .o)) .o))))
def Ve:aw:=comp (ar Tryz.f66) .o
def Vd:aw:=comp (ar Tryz.f67) .o
def Vc:aw:=comp (ar Tryz.f68) .o
def Vb:aw:=comp (ar Tryz.f74) .o
def Va:aw:=comp (ar Tryz.f75) (.n none .o (.n (some ⟨[(8,false,.bool)],[],[],[],[],[]⟩) .o .o))
def U_:aw:=comp (ar Tryz.f76) .o
def UZ:aw:=comp (ar Tryz.f77) (.n none .o (.n (some ⟨[(10,false,.bool)],[],[],[],[],[]⟩) .o .o))
def UY:aw:=comp (ar Tryz.f78) (.n none .o (.n (some ⟨[(19,false,.bool)],[],[],[],[],[]⟩) .o .o))
def UX:aw:=comp (ar Tryz.f79) .o
def UW:aw:=comp (ar Tryz.f80) .o
def UU:aw:=comp (ar Tryz.f81) (.n none .o (.n none (.n none (.n (some ⟨[(8,false,.bool)],[],[],[],[],[]⟩) .o .o) .o) .o))
def UT:aw:=comp (ar Tryz.f82) (.n none .o (.n none .o (.n none (.n none .o (.n none (.n (some ⟨[(12,false,(.int .i64))],[],[],[],[],[(2,R2)]⟩) .o .o) .o)) .o)))
def US:aw:=comp (ar Tryz.f83) .o
def UR:aw:=comp (ar Tryz.f84) .o
def UQ:aw:=comp (ar Tryz.f85) .o
def UP:aw:=comp (ar Tryz.f86) .o
def UO:aw:=comp (ar Tryz.f87) .o
def UN:aw:=comp (ar Tryz.f88) .o
def UM:aw:=comp (ar Tryz.f89) (.n none .o (.n none .o (.n none (.n none (.n (some ⟨[(15,false,.bool)],[],[],[],[],[]⟩) .o .o) .o) .o)))
def UL:aw:=comp (ar Tryz.f90) .o
def UK:aw:=comp (ar Tryz.f91) (.n none .o (.n none (.n none .o (.n none (.n (some ⟨[(7,false,(.int .i64))],[],[],[],[],[]⟩) .o .o) .o)) .o))
def UJ:aw:=comp (ar Tryz.f92) (.n none .o (.n (some ⟨[],[],[],[],[],[]⟩) .o .o))
def UI:aw:=comp (ar Tryz.f93) .o
def UH:aw:=comp (ar Tryz.f94) .o
def UG:aw:=comp (ar Tryz.f95) .o
def UF:aw:=comp (ar Tryz.f96) (.n none .o (.n (some ⟨[],[],[],[],[],[]⟩) .o (.n (some ⟨[(6,false,(.int .i64))],[],[],[],[],[]⟩) .o .o)))
def UE:aw:=comp (ar Tryz.f97) .o
def UD:aw:=comp (ar Tryz.f98) .o
def UC:aw:=comp (ar Tryz.f99) .o
def Ii:aw:=comp (ar Tryz.f100) .o
def Ih:aw:=comp (ar Tryz.f101) .o
def Ig:aw:=comp (ar Tryz.f102) .o
def Ie:aw:=comp (ar Tryz.f103) .o
def Ic:aw:=comp (ar Tryz.f104) .o
def Ib:aw:=comp (ar Tryz.f105) .o
def Ia:aw:=comp (ar Tryz.f106) (.n none .o (.n (some ⟨[],[],[],[((0,none),[(false,(.int .i64)),(false,(.int .i64)),(false,(.int .i64)),(false,(.int .i64)),(false,(.ptr 1)),(false,(.int .u8)),(false,(.int .u8)),(false,(.int .u8)),(false,(.int .u8)),(false,(.int .i64)),(false,(.int .i64)),(false,(.int .i64)),(false,(.int .i64)),(false,(.int .i64)),(false,(.int .u64)),(false,(.int .u64)),(false,(.aF (.pair (.int .i64) .bool))),(false,(.int .u64)),(false,(.int .u64)),(false,(.int .i64)),(false,(.int .i64)),(false,(.aF (.int .i64))),(false,(.int .i64)),(false,(.aF (.int .i64))),(false,(.int .i64)),(false,.bool),(false,.bool),(false,.bool),(false,(.int .i64)),(false,(.int .i64)),(false,(.aF (.int .i64))),(false,(.int .i64))])],[],[]⟩) .o (.n none .o (.n (some ⟨[(4,false,(.int .i64)),(5,false,(.int .i64))],[],[],[],[],[]⟩) .o .o))))
def H_:aw:=comp (ar Tryz.f107) (.n none .o (.n none .o (.n none (.n none .o (.n none (.n (some ⟨[(3,false,(.int .i64))],[],[],[],[],[]⟩) (.n none (.n none (.n none (.n (some ⟨[(3,false,(.int .i64))],[],[],[],[],[]⟩) .o .o) .o) .o) .o) .o) .o)) .o)))
def H9:aw:=comp (ar Tryz.f108) .o
def H8:aw:=comp (ar Tryz.f124) .o
def H7:aw:=comp (ar Tryz.f125) .o
def H6:aw:=comp (ar Tryz.f126) .o
def H5:aw:=comp (ar Tryz.f127) .o
def H4:aw:=comp (ar Tryz.f128) .o
def H3:aw:=comp (ar Tryz.f129) .o
def H2:aw:=comp (ar Tryz.f130) .o
def HZ:aw:=comp (ar Tryz.f131) .o
def HY:aw:=comp (ar Tryz.f132) .o
def HX:aw:=comp (ar Tryz.f133) (.n none .o (.n (some ⟨[],[],[],[],[],[]⟩) .o (.n (some ⟨[(7,false,(.int .i64))],[],[],[],[],[]⟩) .o (.n (some ⟨[(7,false,(.int .i64))],[],[],[],[],[]⟩) .o (.n (some ⟨[],[],[],[],[],[]⟩) .o (.n none .o (.n none .o (.n none .o (.n none (.n none .o (.n none (.n (some ⟨[(107,false,(.int .i64))],[],[],[],[],[(3,R3),(4,R4)]⟩) (.n none .o (.n none .o (.n none (.n none (.n none .o (.n none .o (.n none (.n (some ⟨[(140,false,.bool)],[],[],[],[],[]⟩) .o .o) .o))) .o) .o))) .o) .o)) .o)))))))))
def HW:aw:=comp (ar Tryz.f134) .o
def HV:aw:=comp (ar Tryz.f135) (.n none .o (.n none .o (.n none .o (.n none (.n none .o (.n none (.n (some ⟨[(6,false,(.int .u64)),(12,false,(.int .i64))],[],[],[],[],[]⟩) .o .o) .o)) .o))))
def HU:aw:=comp (ar Tryz.f136) .o
def HS:aw:=comp (ar Tryz.f137) .o
def HR:aw:=comp (ar Tryz.f138) (.n none .o (.n none (.n none .o (.n none (.n (some ⟨[(8,false,(.int .i64))],[],[],[],[],[]⟩) .o .o) .o)) .o))
def HQ:aw:=comp (ar Tryz.f139) .o
def HP:aw:=comp (ar Tryz.f140) .o
def HO:aw:=comp (ar Tryz.f141) .o
def HN:aw:=comp (ar Tryz.f142) (.n none .o (.n none .o (.n none .o (.n (some ⟨[(5,false,(.int .u64))],[],[],[],[],[]⟩) .o .o))))
def HM:aw:=comp (ar Tryz.f143) (.n none .o (.n none .o (.n (some ⟨[],[],[],[],[],[]⟩) (.n none (.n none .o (.n none .o (.n (some ⟨[(30,false,.bool)],[],[],[],[],[]⟩) .o .o))) .o) (.n none .o (.n (some ⟨[],[],[],[],[],[]⟩) .o .o)))))
def HL:aw:=comp (ar Tryz.f144) (.n none .o (.n (some ⟨[],[],[],[],[],[]⟩) .o .o))
def HK:aw:=comp (ar Tryz.f145) (.n none .o (.n (some ⟨[],[],[],[((2,none),[(false,(.int .i64)),(false,(.int .i64)),(false,(.int .i64)),(false,(.int .i64))]),((4,none),[(false,(.int .i64)),(false,(.int .i64)),(false,(.int .i64)),(false,(.int .i64))])],[],[]⟩) (.n none (.n (some ⟨[(6,false,.bool)],[],[],[],[],[]⟩) .o .o) .o) .o))
def HJ:aw:=comp (ar Tryz.f146) .o
def HI:aw:=comp (ar Tryz.f147) .o
def HH:aw:=comp (ar Tryz.f148) .o
def HG:aw:=comp (ar Tryz.f149) .o
def HF:aw:=comp (ar Tryz.f150) .o
def HE:aw:=comp (ar Tryz.f151) .o
def HD:aw:=comp (ar Tryz.f152) (.n none .o (.n none .o (.n none .o (.n none .o (.n none (.n none .o (.n none (.n (some ⟨[(46,false,(.int .i64))],[(5,(.int .i64)),(6,(.int .u64))],[],[],[],[(1,R1)]⟩) .o .o) .o)) (.n none .o (.n none .o (.n none (.n none .o (.n none (.n (some ⟨[(100,false,(.int .i64))],[],[],[],[],[(1,R1),(2,R2)]⟩) .o .o) .o)) (.n (some ⟨[],[],[],[((0,none),[(false,(.int .i64)),(false,(.int .i64)),(false,(.int .i64)),(false,(.int .i64)),(false,(.fj 9 1)),(false,(.ptr 1)),(false,(.int .u8)),(false,(.int .u8)),(false,(.int .u8)),(false,(.int .u8)),(false,(.int .i64)),(false,(.int .i64)),(false,(.int .i64)),(false,(.int .i64)),(false,(.int .i64)),(false,(.int .u64)),(false,(.int .u64)),(false,(.aF (.pair (.int .i64) .bool))),(false,(.int .u64)),(false,(.int .u64)),(false,(.int .i64)),(false,(.int .i64)),(false,(.aF (.int .i64))),(false,(.int .i64)),(false,(.aF (.int .i64))),(false,(.int .i64)),(false,.bool),(false,.bool),(false,.bool),(false,(.int .i64)),(false,(.int .i64)),(false,(.aF (.int .i64)))])],[],[]⟩) .o .o)))))))))
def HC:aw:=comp (ar Tryz.f153) .o
def HB:aw:=comp (ar Tryz.f154) .o
def HA:aw:=comp (ar Tryz.f155) .o
def Hz:aw:=comp (ar Tryz.f156) .o
def Hy:aw:=comp (ar Tryz.f157) .o
def Hx:aw:=comp (ar Tryz.f158) .o
def Hw:aw:=comp (ar Tryz.f159) .o
def Hv:aw:=comp (ar Tryz.f160) (.n none .o (.n none .o (.n (some ⟨[],[],[],[],[],[]⟩) .o .o)))
def Hu:aw:=comp (ar Tryz.f161) (.n none .o (.n none .o (.n none (.n none .o (.n none (.n (some ⟨[(2,false,(.int .i64)),(9,false,(.int .i64))],[],[],[],[],[]⟩) .o .o) .o)) .o)))
def Ht:aw:=comp (ar Tryz.f198) (.n none .o (.n none (.n none .o (.n none (.n (some ⟨[(8,false,(.int .i64))],[],[],[],[],[]⟩) .o .o) .o)) .o))
def Hs:aw:=comp (ar Tryz.f199) (.n none .o (.n none (.n none .o (.n none (.n (some ⟨[(4,false,.bool)],[],[],[],[],[]⟩) .o .o) .o)) .o))
def Hr:aw:=comp (ar Tryz.f200) (.n none .o (.n none (.n none .o (.n none (.n (some ⟨[(8,false,(.int .i64))],[],[],[],[],[]⟩) .o .o) .o)) .o))
def Hq:aw:=comp (ar Tryz.f201) (.n none .o (.n none (.n none .o (.n none (.n (some ⟨[(8,false,(.int .i64))],[],[],[],[],[]⟩) .o .o) .o)) .o))
def Ho:aw:=comp (ar Tryz.f202) .o
def Hn:aw:=comp (ar Tryz.f203) .o
def Hm:aw:=comp (ar Tryz.f204) .o
def Hl:aw:=comp (ar Tryz.f205) .o
def Hk:aw:=comp (ar Tryz.f206) .o
def Hj:aw:=comp (ar Tryz.f207) .o
def Hi:aw:=comp (ar Tryz.f208) .o
def Hh:aw:=comp (ar Tryz.f209) .o
def Hg:aw:=comp (ar Tryz.f210) .o
def Hf:aw:=comp (ar Tryz.f211) (.n none .o (.n none .o (.n none .o (.n none .o (.n (some ⟨[],[],[],[((10,none),[(true,(.int .u64)),(true,(.int .i64)),(false,.bool),(false,(.int .i64))])],[],[]⟩) .o .o)))))
def He:aw:=comp (ar Tryz.f212) (.n none .o (.n none .o (.n none (.n none .o (.n none (.n (some ⟨[(3,false,(.int .i64)),(11,false,(.int .i64))],[],[],[],[],[]⟩) .o .o) .o)) (.n (some ⟨[],[(6,(.int .i64))],[],[],[],[]⟩) .o (.n none (.n none .o (.n none (.n (some ⟨[(27,false,(.int .i64))],[(6,(.int .i64))],[],[],[],[]⟩) .o .o) .o)) .o)))))
def Hd:aw:=comp (ar Tryz.f213) .o
def Hc:aw:=comp (ar Tryz.f214) .o
def G_:aw:=comp (ar Tryz.f215) (.n none .o (.n (some ⟨[],[],[],[((6,none),[(false,(.int .i64)),(false,(.int .i64)),(false,(.int .i64)),(false,(.int .i64))])],[],[]⟩) .o .o))
def G9:aw:=comp (ar Tryz.f216) .o
def G8:aw:=comp (ar Tryz.f217) .o
def G7:aw:=comp (ar Tryz.f218) .o
def G6:aw:=comp (ar Tryz.f219) .o
def G5:aw:=comp (ar Tryz.f220) .o
def G4:aw:=comp (ar Tryz.f234) .o
def G3:aw:=comp (ar Tryz.f235) .o
def G2:aw:=comp (ar Tryz.f236) .o
def G1:aw:=comp (ar Tryz.f237) (.n none .o (.n (some ⟨[],[],[],[],[],[]⟩) .o .o))
def G0:aw:=comp (ar Tryz.f242) .o
def Yq:Tr (Func×aw):=(.node (.node (.node (.node (.node (.node (.node (.node .nil (some (Tryz.f127,H5)) .nil) (some (Tryz.f63,Vh)) .nil) (some (Tryz.f31,tP)) (.node (.node .nil (some (Tryz.f159,Hw)) .nil) (some (Tryz.f95,UG)) .nil)) none (.node (.node (.node .nil (some (Tryz.f143,HM)) .nil) (some (Tryz.f79,UX)) (.node .nil (some (Tryz.f207,Hj)) .nil)) (some (Tryz.f47,Vy)) .nil)) none (.node (.node (.node (.node .nil (some (Tryz.f135,HV)) .nil) none (.node .nil (some (Tryz.f199,Hs)) .nil)) (some (Tryz.f39,VC)) (.node .nil (some (Tryz.f103,Ie)) .nil)) none (.node (.node (.node .nil (some (Tryz.f151,HE)) .nil) (some (Tryz.f87,UO)) (.node .nil (some (Tryz.f215,G_)) .nil)) (some (Tryz.f55,Vp)) .nil))) (some (Tryz.f3,x3)) (.node (.node (.node (.node (.node .nil (some (Tryz.f131,HZ)) .nil) (some (Tryz.f67,Vd)) .nil) none (.node .nil (some (Tryz.f99,UC)) .nil)) none (.node (.node (.node .nil (some (Tryz.f147,HI)) .nil) (some (Tryz.f83,US)) (.node .nil (some (Tryz.f211,Hf)) .nil)) (some (Tryz.f51,Vu)) .nil)) (some (Tryz.f11,qQ)) (.node (.node (.node (.node .nil (some (Tryz.f139,HQ)) .nil) (some (Tryz.f75,Va)) (.node .nil (some (Tryz.f203,Hn)) .nil)) none (.node .nil (some (Tryz.f107,H_)) (.node .nil (some (Tryz.f235,G3)) .nil))) (some (Tryz.f27,tT)) (.node (.node (.node .nil (some (Tryz.f155,HA)) .nil) (some (Tryz.f91,UK)) (.node .nil (some (Tryz.f219,G6)) .nil)) (some (Tryz.f59,Vl)) .nil)))) none (.node (.node (.node (.node (.node (.node .nil (some (Tryz.f129,H3)) .nil) (some (Tryz.f65,Vf)) .nil) none (.node (.node .nil (some (Tryz.f161,Hu)) .nil) (some (Tryz.f97,UE)) .nil)) (some (Tryz.f17,pC)) (.node (.node (.node .nil (some (Tryz.f145,HK)) .nil) (some (Tryz.f81,UU)) (.node .nil (some (Tryz.f209,Hh)) .nil)) (some (Tryz.f49,Vw)) .nil)) (some (Tryz.f9,x9)) (.node (.node (.node (.node .nil (some (Tryz.f137,HS)) .nil) none (.node .nil (some (Tryz.f201,Hq)) .nil)) (some (Tryz.f41,VA)) (.node .nil (some (Tryz.f105,Ib)) .nil)) none (.node (.node (.node .nil (some (Tryz.f153,HC)) .nil) (some (Tryz.f89,UM)) (.node .nil (some (Tryz.f217,G8)) .nil)) (some (Tryz.f57,Vn)) .nil))) none (.node (.node (.node (.node (.node .nil (some (Tryz.f133,HX)) .nil) none .nil) (some (Tryz.f37,tM)) (.node .nil (some (Tryz.f101,Ih)) .nil)) none (.node (.node (.node .nil (some (Tryz.f149,HG)) .nil) (some (Tryz.f85,UQ)) (.node .nil (some (Tryz.f213,Hd)) .nil)) (some (Tryz.f53,Vr)) .nil)) none (.node (.node (.node (.node .nil (some (Tryz.f141,HO)) .nil) (some (Tryz.f77,UZ)) (.node .nil (some (Tryz.f205,Hl)) .nil)) none (.node .nil none (.node .nil (some (Tryz.f237,G1)) .nil))) (some (Tryz.f29,tR)) (.node (.node (.node .nil (some (Tryz.f157,Hy)) .nil) (some (Tryz.f93,UI)) .nil) (some (Tryz.f61,Vj)) (.node .nil (some (Tryz.f125,H7)) .nil)))))) none (.node (.node (.node (.node (.node (.node (.node .nil (some (Tryz.f128,H4)) .nil) (some (Tryz.f64,Vg)) .nil) (some (Tryz.f32,tO)) (.node (.node .nil (some (Tryz.f160,Hv)) .nil) (some (Tryz.f96,UF)) .nil)) none (.node (.node (.node .nil (some (Tryz.f144,HL)) .nil) (some (Tryz.f80,UW)) (.node .nil (some (Tryz.f208,Hi)) .nil)) (some (Tryz.f48,Vx)) .nil)) none (.node (.node (.node (.node .nil (some (Tryz.f136,HU)) .nil) none (.node .nil (some (Tryz.f200,Hr)) .nil)) (some (Tryz.f40,VB)) (.node .nil (some (Tryz.f104,Ic)) .nil)) none (.node (.node (.node .nil (some (Tryz.f152,HD)) .nil) (some (Tryz.f88,UN)) (.node .nil (some (Tryz.f216,G9)) .nil)) (some (Tryz.f56,Vo)) .nil))) none (.node (.node (.node (.node (.node .nil (some (Tryz.f132,HY)) .nil) (some (Tryz.f68,Vc)) .nil) (some (Tryz.f36,tN)) (.node .nil (some (Tryz.f100,Ii)) .nil)) none (.node (.node (.node .nil (some (Tryz.f148,HH)) .nil) (some (Tryz.f84,UR)) (.node .nil (some (Tryz.f212,He)) .nil)) (some (Tryz.f52,Vt)) .nil)) none (.node (.node (.node (.node .nil (some (Tryz.f140,HP)) .nil) (some (Tryz.f76,U_)) (.node .nil (some (Tryz.f204,Hm)) .nil)) none (.node .nil (some (Tryz.f108,H9)) (.node .nil (some (Tryz.f236,G2)) .nil))) (some (Tryz.f28,tS)) (.node (.node (.node .nil (some (Tryz.f156,Hz)) .nil) (some (Tryz.f92,UJ)) (.node .nil (some (Tryz.f220,G5)) .nil)) (some (Tryz.f60,Vk)) (.node .nil (some (Tryz.f124,H8)) .nil))))) none (.node (.node (.node (.node (.node (.node .nil (some (Tryz.f130,H2)) .nil) (some (Tryz.f66,Ve)) .nil) none (.node .nil (some (Tryz.f98,UD)) .nil)) (some (Tryz.f18,pB)) (.node (.node (.node .nil (some (Tryz.f146,HJ)) .nil) (some (Tryz.f82,UT)) (.node .nil (some (Tryz.f210,Hg)) .nil)) (some (Tryz.f50,Vv)) (.node .nil none (.node .nil (some (Tryz.f242,G0)) .nil)))) (some (Tryz.f10,qR)) (.node (.node (.node (.node .nil (some (Tryz.f138,HR)) .nil) (some (Tryz.f74,Vb)) (.node .nil (some (Tryz.f202,Ho)) .nil)) none (.node .nil (some (Tryz.f106,Ia)) (.node .nil (some (Tryz.f234,G4)) .nil))) (some (Tryz.f26,tU)) (.node (.node (.node .nil (some (Tryz.f154,HB)) .nil) (some (Tryz.f90,UL)) (.node .nil (some (Tryz.f218,G7)) .nil)) (some (Tryz.f58,Vm)) .nil))) none (.node (.node (.node (.node (.node .nil (some (Tryz.f134,HW)) .nil) none (.node .nil (some (Tryz.f198,Ht)) .nil)) (some (Tryz.f38,tL)) (.node .nil (some (Tryz.f102,Ig)) .nil)) none (.node (.node (.node .nil (some (Tryz.f150,HF)) .nil) (some (Tryz.f86,UP)) (.node .nil (some (Tryz.f214,Hc)) .nil)) (some (Tryz.f54,Vq)) .nil)) none (.node (.node (.node (.node .nil (some (Tryz.f142,HN)) .nil) (some (Tryz.f78,UY)) (.node .nil (some (Tryz.f206,Hk)) .nil)) (some (Tryz.f46,Vz)) .nil) (some (Tryz.f30,tQ)) (.node (.node (.node .nil (some (Tryz.f158,Hx)) .nil) (some (Tryz.f94,UH)) .nil) (some (Tryz.f62,Vi)) (.node .nil (some (Tryz.f126,H6)) .nil)))))))
def fns:FT:=fun f=>Yq.get f
theorem Ys:aK Tryz.prog 3 Tryz.f3 x3:=aj Tryz.func3 rfl rfl
theorem Yr:aK Tryz.prog 9 Tryz.f9 x9:=aj Tryz.func9 rfl rfl
theorem SS:aK Tryz.prog 10 Tryz.f10 qR:=aj Tryz.func10 rfl rfl
theorem SR:aK Tryz.prog 11 Tryz.f11 qQ:=aj Tryz.func11 rfl rfl
theorem SQ:aK Tryz.prog 17 Tryz.f17 pC:=aj Tryz.func17 rfl rfl
theorem SP:aK Tryz.prog 18 Tryz.f18 pB:=aj Tryz.func18 rfl rfl
theorem SO:aK Tryz.prog 26 Tryz.f26 tU:=aj Tryz.func26 rfl rfl
theorem SN:aK Tryz.prog 27 Tryz.f27 tT:=aj Tryz.func27 rfl rfl
theorem SM:aK Tryz.prog 28 Tryz.f28 tS:=aj Tryz.func28 rfl rfl
theorem SL:aK Tryz.prog 29 Tryz.f29 tR:=aj Tryz.func29 rfl rfl
theorem SK:aK Tryz.prog 30 Tryz.f30 tQ:=aj Tryz.func30 rfl rfl
theorem SJ:aK Tryz.prog 31 Tryz.f31 tP:=aj Tryz.func31 rfl rfl
theorem SI:aK Tryz.prog 32 Tryz.f32 tO:=aj Tryz.func32 rfl rfl
theorem Bq:aK Tryz.prog 36 Tryz.f36 tN:=aj Tryz.func36 rfl rfl
theorem SH:aK Tryz.prog 37 Tryz.f37 tM:=aj Tryz.func37 rfl rfl
theorem SG:aK Tryz.prog 38 Tryz.f38 tL:=aj Tryz.func38 rfl rfl
theorem SF:aK Tryz.prog 39 Tryz.f39 VC:=aj Tryz.func39 rfl rfl
theorem SE:aK Tryz.prog 40 Tryz.f40 VB:=aj Tryz.func40 rfl rfl
theorem SD:aK Tryz.prog 41 Tryz.f41 VA:=aj Tryz.func41 rfl rfl
theorem SC:aK Tryz.prog 46 Tryz.f46 Vz:=aj Tryz.func46 rfl rfl
theorem SB:aK Tryz.prog 47 Tryz.f47 Vy:=aj Tryz.func47 rfl rfl
theorem SA:aK Tryz.prog 48 Tryz.f48 Vx:=aj Tryz.func48 rfl rfl
theorem Sz:aK Tryz.prog 49 Tryz.f49 Vw:=aj Tryz.func49 rfl rfl
theorem Sy:aK Tryz.prog 50 Tryz.f50 Vv:=aj Tryz.func50 rfl rfl
theorem Sw:aK Tryz.prog 51 Tryz.f51 Vu:=aj Tryz.func51 rfl rfl
theorem Sv:aK Tryz.prog 52 Tryz.f52 Vt:=aj Tryz.func52 rfl rfl
theorem Su:aK Tryz.prog 53 Tryz.f53 Vr:=aj Tryz.func53 rfl rfl
theorem Ss:aK Tryz.prog 54 Tryz.f54 Vq:=aj Tryz.func54 rfl rfl
theorem Sr:aK Tryz.prog 55 Tryz.f55 Vp:=aj Tryz.func55 rfl rfl
theorem Sq:aK Tryz.prog 56 Tryz.f56 Vo:=aj Tryz.func56 rfl rfl
theorem So:aK Tryz.prog 57 Tryz.f57 Vn:=aj Tryz.func57 rfl rfl
theorem Sn:aK Tryz.prog 58 Tryz.f58 Vm:=aj Tryz.func58 rfl rfl
theorem Sm:aK Tryz.prog 59 Tryz.f59 Vl:=aj Tryz.func59 rfl rfl
theorem Sl:aK Tryz.prog 60 Tryz.f60 Vk:=aj Tryz.func60 rfl rfl
theorem Sk:aK Tryz.prog 61 Tryz.f61 Vj:=aj Tryz.func61 rfl rfl
theorem Sj:aK Tryz.prog 62 Tryz.f62 Vi:=aj Tryz.func62 rfl rfl
theorem Si:aK Tryz.prog 63 Tryz.f63 Vh:=aj Tryz.func63 rfl rfl
theorem Sh:aK Tryz.prog 64 Tryz.f64 Vg:=aj Tryz.func64 rfl rfl
theorem Se:aK Tryz.prog 65 Tryz.f65 Vf:=aj Tryz.func65 rfl rfl
theorem Sd:aK Tryz.prog 66 Tryz.f66 Ve:=aj Tryz.func66 rfl rfl
theorem Sc:aK Tryz.prog 67 Tryz.f67 Vd:=aj Tryz.func67 rfl rfl
theorem Sb:aK Tryz.prog 68 Tryz.f68 Vc:=aj Tryz.func68 rfl rfl
theorem Sa:aK Tryz.prog 74 Tryz.f74 Vb:=aj Tryz.func74 rfl rfl
theorem R_:aK Tryz.prog 75 Tryz.f75 Va:=aj Tryz.func75 rfl rfl
theorem RZ:aK Tryz.prog 76 Tryz.f76 U_:=aj Tryz.func76 rfl rfl
theorem RY:aK Tryz.prog 77 Tryz.f77 UZ:=aj Tryz.func77 rfl rfl
theorem RX:aK Tryz.prog 78 Tryz.f78 UY:=aj Tryz.func78 rfl rfl
theorem RW:aK Tryz.prog 79 Tryz.f79 UX:=aj Tryz.func79 rfl rfl
theorem RV:aK Tryz.prog 80 Tryz.f80 UW:=aj Tryz.func80 rfl rfl
theorem RU:aK Tryz.prog 81 Tryz.f81 UU:=aj Tryz.func81 rfl rfl
theorem RT:aK Tryz.prog 82 Tryz.f82 UT:=aj Tryz.func82 rfl rfl
theorem RS:aK Tryz.prog 83 Tryz.f83 US:=aj Tryz.func83 rfl rfl
theorem RR:aK Tryz.prog 84 Tryz.f84 UR:=aj Tryz.func84 rfl rfl
theorem RQ:aK Tryz.prog 85 Tryz.f85 UQ:=aj Tryz.func85 rfl rfl
theorem RP:aK Tryz.prog 86 Tryz.f86 UP:=aj Tryz.func86 rfl rfl
theorem RO:aK Tryz.prog 87 Tryz.f87 UO:=aj Tryz.func87 rfl rfl
theorem RN:aK Tryz.prog 88 Tryz.f88 UN:=aj Tryz.func88 rfl rfl
theorem RM:aK Tryz.prog 89 Tryz.f89 UM:=aj Tryz.func89 rfl rfl
theorem RL:aK Tryz.prog 90 Tryz.f90 UL:=aj Tryz.func90 rfl rfl
theorem RJ:aK Tryz.prog 91 Tryz.f91 UK:=aj Tryz.func91 rfl rfl
theorem RI:aK Tryz.prog 92 Tryz.f92 UJ:=aj Tryz.func92 rfl rfl
theorem RH:aK Tryz.prog 93 Tryz.f93 UI:=aj Tryz.func93 rfl rfl
theorem RG:aK Tryz.prog 94 Tryz.f94 UH:=aj Tryz.func94 rfl rfl
theorem RF:aK Tryz.prog 95 Tryz.f95 UG:=aj Tryz.func95 rfl rfl
theorem RE:aK Tryz.prog 96 Tryz.f96 UF:=aj Tryz.func96 rfl rfl
theorem RD:aK Tryz.prog 97 Tryz.f97 UE:=aj Tryz.func97 rfl rfl
theorem RB:aK Tryz.prog 98 Tryz.f98 UD:=aj Tryz.func98 rfl rfl
theorem RA:aK Tryz.prog 99 Tryz.f99 UC:=aj Tryz.func99 rfl rfl
theorem Ni:aK Tryz.prog 100 Tryz.f100 Ii:=aj Tryz.func100 rfl rfl
theorem Nh:aK Tryz.prog 101 Tryz.f101 Ih:=aj Tryz.func101 rfl rfl
theorem Ng:aK Tryz.prog 102 Tryz.f102 Ig:=aj Tryz.func102 rfl rfl
theorem Nf:aK Tryz.prog 103 Tryz.f103 Ie:=aj Tryz.func103 rfl rfl
theorem Nd:aK Tryz.prog 104 Tryz.f104 Ic:=aj Tryz.func104 rfl rfl
theorem Nc:aK Tryz.prog 105 Tryz.f105 Ib:=aj Tryz.func105 rfl rfl
theorem Nb:aK Tryz.prog 106 Tryz.f106 Ia:=aj Tryz.func106 rfl rfl
theorem Na:aK Tryz.prog 107 Tryz.f107 H_:=aj Tryz.func107 rfl rfl
theorem M_:aK Tryz.prog 108 Tryz.f108 H9:=aj Tryz.func108 rfl rfl
theorem M9:aK Tryz.prog 124 Tryz.f124 H8:=aj Tryz.func124 rfl rfl
theorem M8:aK Tryz.prog 125 Tryz.f125 H7:=aj Tryz.func125 rfl rfl
theorem M7:aK Tryz.prog 126 Tryz.f126 H6:=aj Tryz.func126 rfl rfl
theorem M6:aK Tryz.prog 127 Tryz.f127 H5:=aj Tryz.func127 rfl rfl
theorem M5:aK Tryz.prog 128 Tryz.f128 H4:=aj Tryz.func128 rfl rfl
theorem M4:aK Tryz.prog 129 Tryz.f129 H3:=aj Tryz.func129 rfl rfl
theorem M3:aK Tryz.prog 130 Tryz.f130 H2:=aj Tryz.func130 rfl rfl
theorem M1:aK Tryz.prog 131 Tryz.f131 HZ:=aj Tryz.func131 rfl rfl
theorem M0:aK Tryz.prog 132 Tryz.f132 HY:=aj Tryz.func132 rfl rfl
theorem MZ:aK Tryz.prog 133 Tryz.f133 HX:=aj Tryz.func133 rfl rfl
theorem MY:aK Tryz.prog 134 Tryz.f134 HW:=aj Tryz.func134 rfl rfl
theorem MX:aK Tryz.prog 135 Tryz.f135 HV:=aj Tryz.func135 rfl rfl
theorem MW:aK Tryz.prog 136 Tryz.f136 HU:=aj Tryz.func136 rfl rfl
theorem MV:aK Tryz.prog 137 Tryz.f137 HS:=aj Tryz.func137 rfl rfl
theorem MU:aK Tryz.prog 138 Tryz.f138 HR:=aj Tryz.func138 rfl rfl
theorem MT:aK Tryz.prog 139 Tryz.f139 HQ:=aj Tryz.func139 rfl rfl
theorem MS:aK Tryz.prog 140 Tryz.f140 HP:=aj Tryz.func140 rfl rfl
theorem MR:aK Tryz.prog 141 Tryz.f141 HO:=aj Tryz.func141 rfl rfl
theorem MQ:aK Tryz.prog 142 Tryz.f142 HN:=aj Tryz.func142 rfl rfl
theorem MP:aK Tryz.prog 143 Tryz.f143 HM:=aj Tryz.func143 rfl rfl
theorem MO:aK Tryz.prog 144 Tryz.f144 HL:=aj Tryz.func144 rfl rfl
theorem MN:aK Tryz.prog 145 Tryz.f145 HK:=aj Tryz.func145 rfl rfl
theorem MM:aK Tryz.prog 146 Tryz.f146 HJ:=aj Tryz.func146 rfl rfl
theorem ML:aK Tryz.prog 147 Tryz.f147 HI:=aj Tryz.func147 rfl rfl
theorem MK:aK Tryz.prog 148 Tryz.f148 HH:=aj Tryz.func148 rfl rfl
theorem MJ:aK Tryz.prog 149 Tryz.f149 HG:=aj Tryz.func149 rfl rfl
theorem MI:aK Tryz.prog 150 Tryz.f150 HF:=aj Tryz.func150 rfl rfl
theorem MH:aK Tryz.prog 151 Tryz.f151 HE:=aj Tryz.func151 rfl rfl
theorem MG:aK Tryz.prog 152 Tryz.f152 HD:=aj Tryz.func152 rfl rfl
theorem MF:aK Tryz.prog 153 Tryz.f153 HC:=aj Tryz.func153 rfl rfl
theorem ME:aK Tryz.prog 154 Tryz.f154 HB:=aj Tryz.func154 rfl rfl
theorem MD:aK Tryz.prog 155 Tryz.f155 HA:=aj Tryz.func155 rfl rfl
theorem MC:aK Tryz.prog 156 Tryz.f156 Hz:=aj Tryz.func156 rfl rfl
theorem MB:aK Tryz.prog 157 Tryz.f157 Hy:=aj Tryz.func157 rfl rfl
theorem MA:aK Tryz.prog 158 Tryz.f158 Hx:=aj Tryz.func158 rfl rfl
theorem Mz:aK Tryz.prog 159 Tryz.f159 Hw:=aj Tryz.func159 rfl rfl
theorem My:aK Tryz.prog 160 Tryz.f160 Hv:=aj Tryz.func160 rfl rfl
theorem Mx:aK Tryz.prog 161 Tryz.f161 Hu:=aj Tryz.func161 rfl rfl
theorem Mw:aK Tryz.prog 198 Tryz.f198 Ht:=aj Tryz.func198 rfl rfl
theorem Mv:aK Tryz.prog 199 Tryz.f199 Hs:=aj Tryz.func199 rfl rfl
theorem Mu:aK Tryz.prog 200 Tryz.f200 Hr:=aj Tryz.func200 rfl rfl
theorem Mt:aK Tryz.prog 201 Tryz.f201 Hq:=aj Tryz.func201 rfl rfl
theorem Ms:aK Tryz.prog 202 Tryz.f202 Ho:=aj Tryz.func202 rfl rfl
theorem Mr:aK Tryz.prog 203 Tryz.f203 Hn:=aj Tryz.func203 rfl rfl
theorem Mq:aK Tryz.prog 204 Tryz.f204 Hm:=aj Tryz.func204 rfl rfl
theorem Mp:aK Tryz.prog 205 Tryz.f205 Hl:=aj Tryz.func205 rfl rfl
theorem Mo:aK Tryz.prog 206 Tryz.f206 Hk:=aj Tryz.func206 rfl rfl
theorem Mn:aK Tryz.prog 207 Tryz.f207 Hj:=aj Tryz.func207 rfl rfl
theorem Mm:aK Tryz.prog 208 Tryz.f208 Hi:=aj Tryz.func208 rfl rfl
theorem Ml:aK Tryz.prog 209 Tryz.f209 Hh:=aj Tryz.func209 rfl rfl
theorem Mk:aK Tryz.prog 210 Tryz.f210 Hg:=aj Tryz.func210 rfl rfl
theorem Mj:aK Tryz.prog 211 Tryz.f211 Hf:=aj Tryz.func211 rfl rfl
theorem Mi:aK Tryz.prog 212 Tryz.f212 He:=aj Tryz.func212 rfl rfl
theorem Mh:aK Tryz.prog 213 Tryz.f213 Hd:=aj Tryz.func213 rfl rfl
theorem Mg:aK Tryz.prog 214 Tryz.f214 Hc:=aj Tryz.func214 rfl rfl
theorem Mf:aK Tryz.prog 215 Tryz.f215 G_:=aj Tryz.func215 rfl rfl
theorem Me:aK Tryz.prog 216 Tryz.f216 G9:=aj Tryz.func216 rfl rfl
theorem Md:aK Tryz.prog 217 Tryz.f217 G8:=aj Tryz.func217 rfl rfl
theorem Mc:aK Tryz.prog 218 Tryz.f218 G7:=aj Tryz.func218 rfl rfl
theorem Mb:aK Tryz.prog 219 Tryz.f219 G6:=aj Tryz.func219 rfl rfl
theorem Ma:aK Tryz.prog 220 Tryz.f220 G5:=aj Tryz.func220 rfl rfl
theorem L_:aK Tryz.prog 234 Tryz.f234 G4:=aj Tryz.func234 rfl rfl
theorem L9:aK Tryz.prog 235 Tryz.f235 G3:=aj Tryz.func235 rfl rfl
theorem L8:aK Tryz.prog 236 Tryz.f236 G2:=aj Tryz.func236 rfl rfl
theorem tj:aK Tryz.prog 237 Tryz.f237 G1:=aj Tryz.func237 rfl rfl
theorem L7:aK Tryz.prog 242 Tryz.f242 G0:=aj Tryz.func242 rfl rfl
theorem ya:qO Tryz.prog fns:=FA (.no (.no (.yes Ys (.no (.no (.yes SJ (.yes Si (.yes M6 (.nil _ _) (.nil _ _)) (.nil _ _)) (.yes RF (.yes Mz (.nil _ _) (.nil _ _)) (.nil _ _))) (.yes SB (.yes RW (.yes MP (.nil _ _) (.nil _ _)) (.yes Mn (.nil _ _) (.nil _ _))) (.nil _ _))) (.no (.yes SF (.no (.yes MX (.nil _ _) (.nil _ _)) (.yes Mv (.nil _ _) (.nil _ _))) (.yes Nf (.nil _ _) (.nil _ _))) (.yes Sr (.yes RO (.yes MH (.nil _ _) (.nil _ _)) (.yes Mf (.nil _ _) (.nil _ _))) (.nil _ _)))) (.yes SR (.no (.no (.yes Sc (.yes M1 (.nil _ _) (.nil _ _)) (.nil _ _)) (.yes RA (.nil _ _) (.nil _ _))) (.yes Sw (.yes RS (.yes ML (.nil _ _) (.nil _ _)) (.yes Mj (.nil _ _) (.nil _ _))) (.nil _ _))) (.yes SN (.no (.yes R_ (.yes MT (.nil _ _) (.nil _ _)) (.yes Mr (.nil _ _) (.nil _ _))) (.yes Na (.nil _ _) (.yes L9 (.nil _ _) (.nil _ _)))) (.yes Sm (.yes RJ (.yes MD (.nil _ _) (.nil _ _)) (.yes Mb (.nil _ _) (.nil _ _))) (.nil _ _))))) (.no (.yes Yr (.yes SQ (.no (.yes Se (.yes M4 (.nil _ _) (.nil _ _)) (.nil _ _)) (.yes RD (.yes Mx (.nil _ _) (.nil _ _)) (.nil _ _))) (.yes Sz (.yes RU (.yes MN (.nil _ _) (.nil _ _)) (.yes Ml (.nil _ _) (.nil _ _))) (.nil _ _))) (.no (.yes SD (.no (.yes MV (.nil _ _) (.nil _ _)) (.yes Mt (.nil _ _) (.nil _ _))) (.yes Nc (.nil _ _) (.nil _ _))) (.yes So (.yes RM (.yes MF (.nil _ _) (.nil _ _)) (.yes Md (.nil _ _) (.nil _ _))) (.nil _ _)))) (.no (.no (.yes SH (.no (.yes MZ (.nil _ _) (.nil _ _)) (.nil _ _)) (.yes Nh (.nil _ _) (.nil _ _))) (.yes Su (.yes RQ (.yes MJ (.nil _ _) (.nil _ _)) (.yes Mh (.nil _ _) (.nil _ _))) (.nil _ _))) (.yes SL (.no (.yes RY (.yes MR (.nil _ _) (.nil _ _)) (.yes Mp (.nil _ _) (.nil _ _))) (.no (.nil _ _) (.yes tj (.nil _ _) (.nil _ _)))) (.yes Sk (.yes RH (.yes MB (.nil _ _) (.nil _ _)) (.nil _ _)) (.yes M8 (.nil _ _) (.nil _ _))))))) (.no (.no (.no (.no (.yes SI (.yes Sh (.yes M5 (.nil _ _) (.nil _ _)) (.nil _ _)) (.yes RE (.yes My (.nil _ _) (.nil _ _)) (.nil _ _))) (.yes SA (.yes RV (.yes MO (.nil _ _) (.nil _ _)) (.yes Mm (.nil _ _) (.nil _ _))) (.nil _ _))) (.no (.yes SE (.no (.yes MW (.nil _ _) (.nil _ _)) (.yes Mu (.nil _ _) (.nil _ _))) (.yes Nd (.nil _ _) (.nil _ _))) (.yes Sq (.yes RN (.yes MG (.nil _ _) (.nil _ _)) (.yes Me (.nil _ _) (.nil _ _))) (.nil _ _)))) (.no (.no (.yes Bq (.yes Sb (.yes M0 (.nil _ _) (.nil _ _)) (.nil _ _)) (.yes Ni (.nil _ _) (.nil _ _))) (.yes Sv (.yes RR (.yes MK (.nil _ _) (.nil _ _)) (.yes Mi (.nil _ _) (.nil _ _))) (.nil _ _))) (.yes SM (.no (.yes RZ (.yes MS (.nil _ _) (.nil _ _)) (.yes Mq (.nil _ _) (.nil _ _))) (.yes M_ (.nil _ _) (.yes L8 (.nil _ _) (.nil _ _)))) (.yes Sl (.yes RI (.yes MC (.nil _ _) (.nil _ _)) (.yes Ma (.nil _ _) (.nil _ _))) (.yes M9 (.nil _ _) (.nil _ _)))))) (.no (.yes SS (.yes SP (.no (.yes Sd (.yes M3 (.nil _ _) (.nil _ _)) (.nil _ _)) (.yes RB (.nil _ _) (.nil _ _))) (.yes Sy (.yes RT (.yes MM (.nil _ _) (.nil _ _)) (.yes Mk (.nil _ _) (.nil _ _))) (.no (.nil _ _) (.yes L7 (.nil _ _) (.nil _ _))))) (.yes SO (.no (.yes Sa (.yes MU (.nil _ _) (.nil _ _)) (.yes Ms (.nil _ _) (.nil _ _))) (.yes Nb (.nil _ _) (.yes L_ (.nil _ _) (.nil _ _)))) (.yes Sn (.yes RL (.yes ME (.nil _ _) (.nil _ _)) (.yes Mc (.nil _ _) (.nil _ _))) (.nil _ _)))) (.no (.no (.yes SG (.no (.yes MY (.nil _ _) (.nil _ _)) (.yes Mw (.nil _ _) (.nil _ _))) (.yes Ng (.nil _ _) (.nil _ _))) (.yes Ss (.yes RP (.yes MI (.nil _ _) (.nil _ _)) (.yes Mg (.nil _ _) (.nil _ _))) (.nil _ _))) (.yes SK (.yes SC (.yes RX (.yes MQ (.nil _ _) (.nil _ _)) (.yes Mo (.nil _ _) (.nil _ _))) (.nil _ _)) (.yes Sj (.yes RG (.yes MA (.nil _ _) (.nil _ _)) (.nil _ _)) (.yes M7 (.nil _ _) (.nil _ _))))))))
end Go.Proofs.YtklkjncibchelaaGreat
namespace Go.Proofs
open Go.Shelf
def Tryz.gQ:Go.Shelf.Ren:=⟨fun | 4=>237 | n=>n,fun | 22=>41 | 25=>3 | 3=>3 | 4=>4 | 9=>9 | 20=>20 | 0=>0 | n=>n,fun | n=>n⟩
theorem Tryz.ql:Go.Proofs.Lays8.n4 Tryz.prog Tryz.gQ where
 mixed:=by kernel_rfl
 f4:=⟨Tryz.f237.name,by kernel_rfl,Tryz.func237.trans (congrArg some (by kernel_rfl))⟩
 t0:=Tryz.underlying0
 a0:=Tryz.isAgg0
 z0:=Tryz.sizeOf0
 v0:=Tryz.zeroValue0
 t3:=Tryz.underlying3
 a3:=Tryz.isAgg3
 z3:=Tryz.sizeOf3
 v3:=Tryz.zeroValue3
 t4:=Tryz.underlying4
 a4:=Tryz.isAgg4
 z4:=Tryz.sizeOf4
 v4:=Tryz.zeroValue4
 t9:=Tryz.underlying9
 a9:=Tryz.isAgg9
 z9:=Tryz.sizeOf9
 v9:=Tryz.zeroValue9
 t20:=Tryz.underlying20
 a20:=Tryz.isAgg20
 z20:=Tryz.sizeOf20
 v20:=Tryz.zeroValue20
 t22:=Tryz.underlying41
 a22:=Tryz.isAgg41
 z22:=Tryz.sizeOf41
 v22:=Tryz.zeroValue41
end Go.Proofs
namespace Go.Proofs.YtklkjncibchelaaGreat
open Go.Bm Go.Shelf
theorem xV:∃i,Tryz.prog.info? (Tryz.gQ.t 25)=some i∧i.zero=some (.int .i64 0)∧i.size=1∧i.bytes=8:=by
 obtain ⟨i,t1,t2,t3,t4,t5,t6⟩:=P1.ti
 exact ⟨i,t1,t2,t3,t4⟩
theorem uY:pb Tryz.prog 237 (.int .i64):=⟨⟨_,tj.bc,tj.name,by rw [tj.body];rfl⟩,fun n w hn=>by
 obtain ⟨i,h1,h2,h3,h4⟩:=xV
 rcases Nat.eq_zero_or_pos n with rfl | h0
 ·exact (Any8.slices_Grow_room Tryz.ql none 0 0 0 w (by omega) (by omega) (by omega) (by omega)).mono fun e w' h=>⟨_,h.1,.inl ⟨rfl,h.2⟩⟩
 ·refine (Any8.slices_Grow_grow Tryz.ql i _ h1 h2 (by omega) none 0 0 n [] w (by omega) (by omega) (by rw [h4];omega) (by omega) (by simp) (fun _=>rfl) (fun a h=>by cases h)).mono fun e w' h=>⟨_,h.1,.inr ⟨_,_,_,rfl,h.2,?_,?_⟩⟩
  ·have:=grownCap_ge w (0+n) 0 (Tryz.gQ.t 25)
   show _*1≤_
   simp only [Array.size_append,size_zeroCells,Value.cells]
   simp
   omega
  ·exact grownCap_le_maxLen w _ _ _ (by unfold maxLen;omega)⟩
section
set_option maxHeartbeats 1000000
open Go.RowKit Go.Lib
theorem Ext.Lk {S:Hp} {g:G} {w:World} (ob:Obj):Ext S g w S g (w.alloc ob):=⟨.refl g,rfl,rfl,rfl,by rw [show (w.alloc ob).heap.size=w.heap.size+1 from Array.size_push _];omega,fun k hk _=>Below.heap_alloc w _ k hk,fun _ h=>.inl h,fun _ _ h=>.inl h,fun _ h=>h,fun _ _ _ h=>.inl h,fun _ _ h=>.inl h⟩
theorem ra {P:Program} {ops:Array Oper} {o:Oper} {rest:List Oper} {a:Act} {w w':World} {v:Value} {Q:Exit→Act→World→Prop} (hg:o.guard=none) (h:(execOp a.eval o).run P w = .ok (.value v) w') (k:wpList P ops Q rest (a.put o.dst v) w'):wpList P ops Q (o::rest) a w:=by
 refine wpList_plain hg fun K hK=>?_
 unfold Oper.wp
 rw [h]
 exact hK _ _ k
theorem Gd (n c:Nat) (w:World):Calls Tryz.prog 36 #[.slice none n c] w fun e w'=>e = .returned (.slice none 0 0)∧w'=w:=by
 have WW:∀(w:World) (a:Option Addr) (n c n' c':Nat),(binOp .eql 41 (.slice a n c) (.slice none n' c')).run Tryz.prog w = .ok (.bool a.isNone) w:=fun w a n c n' c'=>Lib.run_eql_slice_nil w _ _ a n c n' c' zx.u
 go_enter Tryz.func36,Tryz.ntmps36
 go_wp2
 go_ret
 exact ⟨rfl,rfl⟩
theorem BD (g:G) (S:Hp) (q:Nat) (hf:S.fr q) (l:List Int) (hl:l.length≤16777216) (w:World) (hI:Inv g S w) (a:Addr) (n c:Nat) (hv:∀w2,Inv g S w2→Given g w2 (.slice (some a) n c) 1 l.length (l.flatMap (aB (.int .i64)))):Calls Tryz.prog 36 #[.slice (some a) n c] w fun e w'=>∃v g',e = .returned v∧V g' (.tw (.loc q) 1) v∧Inv g' (S.new q (.cells (l.flatMap (aB (.int .i64))))) w'∧Ext S g w (S.new q (.cells (l.flatMap (aB (.int .i64))))) g' w':=by
 have WW:∀(w:World) (a:Option Addr) (n c n' c':Nat),(binOp .eql 41 (.slice a n c) (.slice none n' c')).run Tryz.prog w = .ok (.bool a.isNone) w:=fun w a n c n' c'=>Lib.run_eql_slice_nil w _ _ a n c n' c' zx.u
 have hw:Inv g S (w.alloc (.cells #[] 3)):=hI.world (by rw [show (w.alloc (.cells #[] 3)).heap.size=w.heap.size+1 from Array.size_push _];omega) (fun k hk=>Below.heap_alloc w _ k hk)
 have uV:Given g (w.alloc (.cells #[] 3)) (.slice (some a) n c) 1 l.length (l.flatMap (aB (.int .i64))):=hv _ hw
 obtain ⟨v,g',w',cU,k1,k2,k3⟩:=eI (P:=Tryz.prog) (ty:=41) (some ⟨w.heap.size,0,none⟩) zx.u P1.ti hw uV hf (by show _*8≤_;omega) (by unfold maxLen;omega)
 have k3:=(Ext.Lk (S:=S) (g:=g) (w:=w) (.cells #[] 3)).trans k3
 clear uV hw
 go_enter Tryz.func36,Tryz.ntmps36
 go_wp2_with (at_builtin;refine ra (v:=v) (w':=w') rfl (by simp [execOp,resolve,invoke,Act.eval,builtin,cU]) ?_)
 go_ret
 exact ⟨v,g',rfl,k1,k2,k3⟩
theorem vg:lL Tryz.prog 36 (.int .i64):=⟨⟨_,Bq.bc,Bq.name,by rw [Bq.body];rfl⟩,Gd,fun g S q hf l hl w hI a n c hv=>BD g S q hf l hl w hI a n c hv⟩
end
end Go.Proofs.YtklkjncibchelaaGreat
namespace Go.Bm
section
open Go.RowKit Go.ChangeShapes Go.WideShapes Go.Deep
def DH (W:World):Mem:=fun b o=>(W.cell? ⟨b,o,none⟩).filter (·.oneCell')
theorem vk {W:World} {b o:Nat} {x:Value} (h:W.cell? ⟨b,o,none⟩=some x):∃cur ty fz,W.heap[b]?=some (.cells cur ty fz)∧cur[o]?=some x:=by
 unfold World.cell? at h
 split at h
 ·rename_i c ty fz hb
  simp at h
  exact ⟨c,ty,fz,hb,h⟩
 ·cases h
def Xi (k:IntKind) (a:Int):Prop:=k.min≤a∧a≤k.max
def DC:(t:Ty)→t.T→Prop
 | .int k,a=>Xi k a
 | .bool,_=>True
 | .unit,_=>True
 | .pair a b,x=>DC a x.1∧DC b x.2
 | .arr n t,l=>List.length (α:=t.T) l=n∧∀x:t.T,List.Mem (α:=t.T) x l→DC t x
 | .aF t,l=>List.length (α:=t.T) l≤maxLen∧∀x:t.T,List.Mem (α:=t.T) x l→DC t x
 | _,_=>False
def GU (P:Program) (W:World) (t:TypeId) (u:Ty):Prop:=
 ∀(H:Type) (enc:TypeId×Value→H) (n:Nat) (cs:List Value) (x:DataW H×List MemPlace),DataW.trod enc P W 0 (fun _=>true) true n t cs=some x→∃a:u.T,kt (DH W) (cu u a) cs∧DC u a
theorem kt.kO {M:Mem} {d:D} {v:Value} (h:VD M d v):kt M [d] [v]:=⟨rfl,fun j c x k1 k2=>by
 cases j with
 | zero=>simp at k1 k2;subst k1 k2;exact h
 | succ j=>simp at k1⟩
section
variable {P:Program} {W:World}
theorem Dx {t:TypeId} {k:IntKind} (ht:P.underlying t=some (.int k)):GU P W t (.int k):=by
 intro H enc n cs x h
 obtain ⟨a,rfl,_,hw⟩:=DataW.trod_int ht h
 refine ⟨a,.kO (.v _ rfl),?_⟩
 have hw:(decide (k.min≤a) && decide (a≤k.max))=true:=hw
 rw [zC] at hw
 exact ⟨of_decide_eq_true hw.1,of_decide_eq_true hw.2⟩
inductive TR (P:Program) (W:World):List Field→Nat→Ty→Prop
 | one {fd:Field} {off:Nat} {a:Ty} (h:GU P W fd.type a) (ho:fd.offset=off) (hs:P.cellsOf fd.type=a.size):TR P W [fd] off a
 | cons {fd:Field} {fs:List Field} {off:Nat} {a b:Ty} (h:GU P W fd.type a) (ho:fd.offset=off) (hs:P.cellsOf fd.type=a.size) (k:TR P W fs (off+a.size) b):TR P W (fd::fs) off (.pair a b)
def GO (W:World):G:=⟨fun _=>none,DH W,fun _=>none⟩
theorem Inv.start {S:Hp} (hS:∀o,S.ob o=none):Inv (GO W) S W where
 cells:=fun o cs h=>by rw [hS] at h;cases h
 bV:=fun o x h=>by rw [hS] at h;cases h
 fresh:=fun _ _=>rfl
 lt:=fun o b s h=>by cases h
 inj:=fun o o' x x' b s s' h=>by rw [hS] at h;cases h
 mem:=fun b i x h=>by
  have h:(W.cell? ⟨b,i,none⟩).filter (·.oneCell')=some x:=h
  rw [Option.filter_eq_some_iff] at h
  exact vk h.1
 gw:=fun o b s i x h=>by rw [hS] at h;cases h
 lp:=fun b l h=>by cases h
theorem wB {t:TypeId} {u:Ty} {H:Type} {enc:TypeId×Value→H} {v:Value} {dd:DataW H} {p:List MemPlace} (hr:GU P W t u) (hd:u.data=true) (hc:v.cells.toList=[v]) (h:DataW.Trod enc P W 0 (fun _=>true) true t v dd p) :
  ∃a:u.T,V (GO W) (bq false u a) v∧DC u a:=by
 obtain ⟨fuel,hf⟩:=h
 rw [hc] at hf
 obtain ⟨a,h1,h2⟩:=hr H enc fuel _ _ hf
 have h3:=kt.cells (g:=GO W) u a _ hd h1
 refine ⟨a,?_,h2⟩
 show V (GO W) (match aB u a with | [c]=>c | _=>.bR) v
 obtain ⟨hl,h4⟩:=h3
 match he:aB u a with
 | [c]=>exact (h4 0 c v (by rw [he];rfl) rfl).1
 | []=>exact .bR _
 | _::_::_=>exact .bR _
def S8:(k:RK)→k.T
 | .box t=>([]:List t.T)
 | .row t=>([]:List (Option (List t.T)))
 | .map _ tk _ tv=>([]:List (List (tk.T×tv.T)))
def vc:(l:List (Nat×RK))→lK l
 | []=>()
 | p::l=>(S8 p.2,vc l)
theorem wy:∀(k:RK) (j:Nat),cn k (S8 k) j=none
 | .box _,_=>rfl
 | .row _,_=>rfl
 | .map _ _ _ _,_=>rfl
theorem lX:∀(l:List (Nat×RK)) (r:Nat) (x:Rg),a7 (b9 l (vc l)) r=some x→∀j,cn x.k x.c j=none
 | [],r,x,h,j=>by cases h
 | p::l,r,x,h,j=>by
  have h:(bif Nat.beq p.1 r then some (⟨p.1,p.2,S8 p.2⟩:Rg) else a7 (b9 l (vc l)) r)=some x:=h
  cases hp:Nat.beq p.1 r with
  | true=>rw [hp] at h;cases h;exact wy p.2 j
  | false=>rw [hp] at h;exact lX l r x h j
theorem Bj (rl wl:List (Nat×RK)) (o:Nat):(hp (h0 rl wl (vc rl) (vc wl))).ob o=none:=by
 show (if o<bS then cY .nil o else cp (b9 wl (vc wl)++b9 rl (vc rl)) o)=none
 split
 ·unfold cY;rw [Tr.get_nil]
 ·unfold cp
  rw [dF]
  cases h1:a7 (b9 wl (vc wl)) (hJ o) with
  | some x=>exact lX wl _ x h1 _
  | none=>
   simp only
   cases h2:a7 (b9 rl (vc rl)) (hJ o) with
   | some x=>exact lX rl _ x h2 _
   | none=>rfl
theorem xm {f:FuncId} {sg:ck} {F:Plain sg} (h:bg P f sg F) (ZJ:sg.rs=[(false,.bool)]) (x:fL sg.ps) {y:fL sg.rs} {d':lK sg.wg} (hF:F x (vc sg.rg) (vc sg.wg)=some (y,d')) (hy:mY sg.rs y = .v (.bool true)) {vs:List Value}
  (hl:(iC sg.ps x).length=vs.length) (hv:∀(i:Nat) (p:A) (v:Value),(iC sg.ps x)[i]?=some p→vs[i]?=some v→V (GO W) p v) :
  Calls P f vs.toArray W fun e W'=>e = .returned (.bool true)∧Go.World.Since W.heap.size W W':=by
 obtain ⟨t,aL,lk,hp⟩:=h.pc x _ _ y d' hF
 refine (hp (GO W) W vs (.start (Bj _ _)) hl hv).mono ?_
 rintro e W' ⟨v,g',rfl,h1,_,h3⟩
 rw [hy] at h1
 cases h1
 exact ⟨rfl,h3.os,h3.tape,h3.output,h3.size,fun k hk=>h3.frame k hk (by rintro ⟨o,s,x,_,e⟩;cases e)⟩
end
end
section
open Go.RowKit Go.Conc
def lT {σ ρ:Type} (f:Int→σ→(σ→Option ρ)→Option ρ):List Int→σ→(σ→Option ρ)→Option ρ
 | [],s,k=>k s
 | t::l,s,k=>f t s (fun s'=>lT f l s' k)
def kV {D α β:Type} (LiveF:D→Option ((List Int×Unit)×α)) (StepF:Int→D→Option (β×D)) (most:Int) (k:Int×D→Option ((Int×(Int×Unit))×D)) (s:Int×D):Option ((Int×(Int×Unit))×D):=
 bd (LiveF s.2) (fun p=>br (aT 0 (zN (len p.1.1))) (br (cD (zN (len p.1.1)) 1000000)
  (lT (fun t s k=>br (ak s.1 most) (some ((s.1,(3,())),s.2)) (bd (StepF t s.2) (fun q=>k (af .i64 s.1 1,q.2)))) p.1.1 s k) none)
  (some ((s.1,(0,())),s.2)))
def yq {D α β:Type} (LiveF:D→Option ((List Int×Unit)×α)) (StepF:Int→D→Option (β×D)) (most:Int) (d:D):Option ((Int×(Int×Unit))×D):=
 br (aT most 0) (some ((0,(1,())),d)) (loop (kV LiveF StepF most) (0,d))
structure Raw (S:Hp) (g:G) (w0 w:World) (b:Nat):Prop where
 ge:w0.heap.size≤b
 lt:b<w.heap.size
 ow:¬hB S g b
 mem:∀i,g.mem b i=none
 lp:g.lp b=none
structure KK (S0:Hp) (g0:G) (w0:World) (S:Hp) (g:G) (w:World):Prop where
 inv:Inv g S w
 ext:Ext S0 g0 w0 S g w
theorem KK.refl {S:Hp} {g:G} {w:World} (h:Inv g S w):KK S g w S g w:=⟨h,.refl S g w⟩
section
variable {P:Program} {S0 S S':Hp} {g0 g g':G} {w0 w w':World}
theorem Raw.ext {b:Nat} (h:Raw S g w0 w b) (e:Ext S g w S' g' w'):Raw S' g' w0 w' b∧w'.heap[b]?=w.heap[b]?:=by
 refine ⟨⟨h.ge,Nat.lt_of_lt_of_le h.lt e.size,fun o=>(e.own b o).elim h.ow (fun k=>absurd h.lt (by omega)),fun i=>?_,?_⟩,e.frame b h.lt h.ow⟩
 ·cases hm:g'.mem b i with
  | none=>rfl
  | some x=>exact absurd ((e.ml b i x hm).elim (fun k=>by rw [h.mem] at k;cases k) (fun k=>k.elim (fun k=>absurd k h.ow) (fun k=>absurd h.lt (by omega)))) id
 ·cases hm:g'.lp b with
  | none=>rfl
  | some x=>exact absurd ((e.lpo b x hm).elim (fun k=>by rw [h.lp] at k;cases k) (fun k=>absurd h.lt (by omega))) id
theorem KK.trans (k:KK S0 g0 w0 S g w) (hi:Inv g' S' w') (e:Ext S g w S' g' w'):KK S0 g0 w0 S' g' w':=⟨hi,k.ext.trans e⟩
theorem KK.call {f:FuncId} {aa:List A} {vs:List Value} {r:A} (LG:PC P f aa S S' r) (k:KK S0 g0 w0 S g w) (hl:aa.length=vs.length) (hv:∀(i:Nat) (p:A) (v:Value),aa[i]?=some p→vs[i]?=some v→V g p v) :
  Calls P f vs.toArray w (fun e w'=>∃v g',e = .returned v∧V g' r v∧KK S0 g0 w0 S' g' w'∧Le g g'∧∀b,Raw S g w0 w b→Raw S' g' w0 w' b∧w'.heap[b]?=w.heap[b]?):=by
 refine (LG g w vs k.inv hl hv).mono ?_
 rintro e w' ⟨v,g',rfl,h1,h2,h3⟩
 exact ⟨v,g',rfl,h1,k.trans h2 h3,h3.le,fun b hb=>hb.ext h3⟩
theorem Inv.W7 {o b:Nat} (h:Inv g S w) (ho:hB S g b):b<w.heap.size:=by
 obtain ⟨o,s,x,h1,h2⟩:=ho
 exact h.lt o b s h2
theorem KK.raw {b:Nat} (k:KK S0 g0 w0 S g w) (hb:w0.heap.size≤b) (ho:¬hB S g b) (hm:∀i,g.mem b i=none) (Be:g.lp b=none)
  (e1:w'.os=w.os) (e2:w'.tape=w.tape) (e3:w'.output=w.output) (hs:w.heap.size≤w'.heap.size) (hh:∀j,j<w.heap.size→j≠b→w'.heap[j]?=w.heap[j]?):KK S0 g0 w0 S g w':=by
 have hI:=k.inv
 refine ⟨⟨fun o cs e=>(hI.cells o cs e).imp id fun ⟨b',t,k1,cur,ty,k2,k3⟩=>⟨b',t,k1,cur,ty,by rw [hh b' (hI.lt _ _ _ k1) (fun h=>ho (h▸⟨o,_,_,e,k1⟩))];exact k2,k3⟩,
  fun o x e=>let ⟨b',s,ob,k1,k2,k3⟩:=hI.bV o x e;⟨b',s,ob,k1,by rw [hh b' (hI.lt _ _ _ k1) (fun h=>ho (h▸⟨o,_,_,e,k1⟩))];exact k2,k3⟩,
  hI.fresh,fun o b s e=>Nat.lt_of_lt_of_le (hI.lt o b s e) hs,hI.inj,
  fun b' i x e=>let ⟨cur,ty,fz,k1,k2⟩:=hI.mem b' i x e;⟨cur,ty,fz,by rw [hh b' (Array.getElem?_eq_some_iff.1 k1).1 (fun h=>by rw [h,hm] at e;cases e)];exact k1,k2⟩,
  hI.gw,fun b' l e=>let ⟨r,k1,k2⟩:=hI.lp b' l e;⟨r,by rw [hh b' (Array.getElem?_eq_some_iff.1 k1).1 (fun h=>by rw [h,Be] at e;cases e)];exact k1,k2⟩⟩,?_⟩
 have hE:=k.ext
 exact ⟨hE.le,e1.trans hE.os,e2.trans hE.tape,e3.trans hE.output,Nat.le_trans hE.size hs,fun j hj hn=>by
  rw [hh j (Nat.lt_of_lt_of_le hj hE.size) (by omega)];exact hE.frame j hj hn,hE.own,hE.Bx,hE.fr,hE.ml,hE.lpo⟩
theorem KK.change {b:Nat} (k:KK S0 g0 w0 S g w) (hb:Raw S g w0 w b)
  (e1:w'.os=w.os) (e2:w'.tape=w.tape) (e3:w'.output=w.output) (hs:w'.heap.size=w.heap.size) (hh:∀j,j≠b→w'.heap[j]?=w.heap[j]?):KK S0 g0 w0 S g w'∧∀j,Raw S g w0 w j→Raw S g w0 w' j:=
 ⟨k.raw hb.ge hb.ow hb.mem hb.lp e1 e2 e3 (Nat.le_of_eq hs.symm) (fun j _ h=>hh j h),fun j h=>⟨h.ge,by rw [hs];exact h.lt,h.ow,h.mem,h.lp⟩⟩
theorem KK.alloc (k:KK S0 g0 w0 S g w) (ob:Obj):KK S0 g0 w0 S g (w.alloc ob)∧Raw S g w0 (w.alloc ob) w.heap.size∧∀j,Raw S g w0 w j→Raw S g w0 (w.alloc ob) j∧(w.alloc ob).heap[j]?=w.heap[j]?:=by
 have ho:¬hB S g w.heap.size:=fun h=>Nat.lt_irrefl _ (Inv.W7 (o:=0) k.inv h)
 have hm:∀i,g.mem w.heap.size i=none:=fun i=>by
  cases e:g.mem w.heap.size i with
  | none=>rfl
  | some x=>exact absurd (k.inv.mlt e) (Nat.lt_irrefl _)
 have Be:g.lp w.heap.size=none:=by
  cases e:g.lp w.heap.size with
  | none=>rfl
  | some l=>obtain ⟨r,k1,_⟩:=k.inv.lp _ _ e;exact absurd (Array.getElem?_eq_some_iff.1 k1).1 (Nat.lt_irrefl _)
 have j7:(w.alloc ob).heap.size=w.heap.size+1:=Array.size_push ..
 have hh:∀j,j<w.heap.size→(w.alloc ob).heap[j]?=w.heap[j]?:=fun j hj=>by show (w.heap.push ob)[j]?=_;rw [Array.getElem?_push,if_neg (Nat.ne_of_lt hj)]
 exact ⟨k.raw (b:=w.heap.size) k.ext.size ho hm Be rfl rfl rfl (by omega) (fun j hj _=>hh j hj),⟨k.ext.size,by omega,ho,hm,Be⟩,fun j h=>⟨⟨h.ge,by have:=h.lt;omega,h.ow,h.mem,h.lp⟩,hh j h.lt⟩⟩
theorem D1 {f:FuncId} {sg:ck} {F:Plain sg} (hF:bg P f sg F) {aa:List A} {h h2:H} {pv:A} (hr:GS sg F aa h (fun pv h' _=>some (pv,h'))=some (pv,h2)):PC P f aa (hp h) (hp h2) pv:=by
 obtain ⟨wH,h',T,e,k⟩:=yu hF hr
 cases e
 have hs:=k.ok (hp h) Agree.self
 have e:et T (hp h2) (hp h)=hp h2:=Hp.ext' (fun i=>by
  show (if touch T i=true then _ else _)=_
  split
  ·rfl
  ·rename_i hi;exact (k.out i (by simpa using hi)).1.symm) (fun i=>by
  show (if touch T i=true then _ else _)↔_
  split
  ·exact Iff.rfl
  ·rename_i hi;exact (k.out i (by simpa using hi)).2.symm)
 rw [e] at hs
 exact hs
theorem rI {f:FuncId} {args:Array Value} {R:Ending→World→Prop} {Q:Goroutine→World→Prop} {c:Frame} {cs:List Frame} (h:Calls P f args w R) (hn:∀e w',R e w'→∃v,e = .returned v)
  (hk:∀v w',R (.returned v) w'→LoneTo P Q (Go.Conc.G (c.finish v) cs) w'):LoneTo P Q (Go.Conc.G (Frame.enter P f args .normal) (c::cs)) w:=by
 obtain ⟨e,w',fr,hR,hc,hf,hl⟩:=h (c::cs)
 obtain ⟨v,rfl⟩:=hn e w' hR
 obtain ⟨g2,w2,hs,hq⟩:=hk v w' hR
 exact ⟨g2,w2,Steps.trans hc (Steps.head (step_leave_returned hl) hs),hq⟩
theorem dH {b:Frame} {a:Act} {k:List Item} {cs:List Frame} {w:World} {ops:Array Oper} {i:Nat} {rest:List Nat} {o:Oper} {f:FuncId} {fn:Func} {args:Array Operand} {TM:Array TypeId} {vs:Array Value} {R:Ending→World→Prop} {Q:Goroutine→World→Prop}
  (ho:ops[i]?=some o) (hw:Region.wanted o (yielded ops a.tmps)=true) (hk:b.kind≠.early) (pq:o.op = .call { callee:=.value (.func f),args,argTypes:=TM })
  (hf : P.funcs[f]? = some fn) (LM : (fn.name == "runtime.NumGoroutine") = false) (hb : fn.body.isNone = false) (tc : args.map a.eval = vs)
  (hc:Calls P f vs w R) (hn:∀e w',R e w'→∃v,e = .returned v)
  (hK:∀v w',R (.returned v) w'→LoneTo P Q (Go.Conc.G (b.at (a.put o.dst v) (.inRegion ops rest::k)) cs) w'):LoneTo P Q (Go.Conc.G (b.at a (.inRegion ops (i::rest)::k)) cs) w:=by
 refine LoneTo.step (step_solo_go rfl (stepG_enter ho hw hk (run_call_body pq hf LM hb))) ?_
 rw [tc]
 refine rI hc hn (fun v w' hR=>?_)
 rw [Frame.finish_at,ho]
 exact hK v w' hR
theorem vW (hI:Inv g S w) {k:IntKind} {full:Bool} {l:List Int} {v:Value} (h:V g (.tl (.int k) full l) v) :
  ∃ad cap,v = .slice ad l.length cap∧(0<l.length→∃q,ad=some q∧∀i x,l[i]?=some x→w.cell? (q.add i)=some (.int k x)):=by
 obtain ⟨ad,cap,us,h1,h2,h3,h4⟩:=V.nU hI (t:=.int k) rfl h
 refine ⟨ad,cap,h1,fun hl=>?_⟩
 obtain ⟨q,e,h5⟩:=h4 hl
 refine ⟨q,e,fun i x hx=>?_⟩
 have hi:i<us.length:=by
  refine Nat.lt_of_lt_of_le (zB.1 hx).1 (Nat.le_of_eq ?_)
  rw [h3];exact (Nat.mul_one _).symm
 have hf:∀l:List Int,(l.flatMap (aB (.int k)))=l.map (fun x=>A.v (.int k x)):=fun l=>by
  induction l with
  | nil=>rfl
  | cons a l ih=>show _::_=_::_;rw [←ih];rfl
 have h6:=(h2.2 i (.v (.int k x)) us[i] ((congrArg (fun z=>z[i]?) (hf l)).trans (by simp [hx])) (zD hi)).1
 have h7:=h5 i us[i] (zD hi)
 rw [h7]
 generalize us[i]=u at h6
 cases h6
 rfl
end
end
end Go.Bm