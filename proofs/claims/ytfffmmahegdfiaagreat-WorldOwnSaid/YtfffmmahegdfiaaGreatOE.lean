/- Texts of one proof, put together: see each part. -/
import Derived.Test.YtfffmmahegdfiaaGreatOD
set_option maxHeartbeats 2000000
noncomputable section
set_option linter.unusedVariables false
set_option linter.unusedSimpArgs false
namespace Go.Proofs.YtfffmmahegdfiaaGreat
open Go.Bm Go.oT
abbrev Rn.op (r:U1):Int:=r.1.1
abbrev Rn.pc (r:U1):Int:=r.2.1
abbrev Rn.ch (r:U1):List (Int×Bool):=r.2.2.2.2.2.1
abbrev Rn.list (r:U1):List Int:=r.2.2.2.2.2.2.2.2.2.2.1
abbrev Rn.said (r:U1):List Int:=r.2.2.2.2.2.2.2.2.2.2.2.2.1
abbrev Rn.done (r:U1):Bool:=r.2.2.2.2.2.2.2.2.2.2.2.2.2.2.2.1
abbrev Rn.dZ (r:U1):Bool:=r.2.2.2.2.2.2.2.2.2.2.2.2.2.2.2.2.1
abbrev Rn.code (r:U1):Int:=r.2.2.2.2.2.2.2.2.2.2.2.2.2.2.2.2.2.1
abbrev Rn.zh (r:U1):List Int:=r.2.2.2.2.2.2.2.2.2.2.2.2.2.2.2.2.2.2.2
def dw (o pc:Int):Prop:=pc=0∨((o=2∨o=3)∧pc=1)∨(o=7∧(pc=5∨pc=2∨pc=3∨pc=4))∨(o=4∧(pc=13∨pc=14))∨(o=5∧15≤pc∧pc≤26)∨(o=8∧(pc=5∨pc=6∨pc=9))∨(o=9∧(pc=5∨pc=6∨pc=7∨pc=8∨pc=10))∨(o=10∧pc=11)∨(o=11∧(pc=12∨pc=7∨pc=8))
structure rq (n:Nat) (r:U1):Prop where
 list:(Rn.list r).length≤n
 said:(Rn.said r).length≤n
 ch:(Rn.ch r).length≤100
 done:Rn.done r=false
 dZ:Rn.dZ r=false
 fin:Rn.pc r=20∨Rn.pc r=21→Rn.list r≠[]
 small:n≤100000
 pc:dw (Rn.op r) (Rn.pc r)
structure SP (n:Nat) (r r':U1):Prop where
 call:r'.1=r.1
 ch:Rn.ch r'=Rn.ch r
 list:(Rn.list r').length≤n+1
 said:(Rn.said r').length≤n+1
 zh:Rn.done r'=true→(Rn.zh r').length≤n+1
 dZ:Rn.dZ r'=Rn.done r'
 fin:Rn.done r'=false→Rn.pc r'=20∨Rn.pc r'=21→Rn.list r'≠[]
 pc:Rn.done r'=false→dw (Rn.op r) (Rn.pc r')
def OB (r:U1) (c m:Int):U1:=(r.1,(r.2.1,(r.2.2.1,(r.2.2.2.1,(r.2.2.2.2.1,(r.2.2.2.2.2.1,(r.2.2.2.2.2.2.1,(r.2.2.2.2.2.2.2.1,(r.2.2.2.2.2.2.2.2.1,(r.2.2.2.2.2.2.2.2.2.1,(r.2.2.2.2.2.2.2.2.2.2.1,(r.2.2.2.2.2.2.2.2.2.2.2.1,(r.2.2.2.2.2.2.2.2.2.2.2.2.1,(r.2.2.2.2.2.2.2.2.2.2.2.2.2.1,(r.2.2.2.2.2.2.2.2.2.2.2.2.2.2.1,(true,(true,(c,(m,Rn.said r)))))))))))))))))))
theorem LX (r:U1) (c m:Int) (h:(Rn.said r).length≤1000000):g.bh r c m=some ((OB r c m,()),()):=by
 unfold g.bh
 have e:g.cA (Rn.said r)=some ((Rn.said r,()),()):=by
  unfold g.cA
  rw [oC (show bt (aN 0 (len (Rn.said r))) 16777216 by rw [db,aL];show 0+_≤_;omega)]
  rfl
 rw [l_ e];rfl
theorem jL (n:Nat) {r0 r:U1} (c m:Int) (h1:r.1=r0.1) (h2:Rn.ch r=Rn.ch r0) (h3:(Rn.list r).length≤n+1) (h4:(Rn.said r).length≤n+1) (hn:n≤100000) :
  Ok (g.bh r c m) (fun p=>SP n r0 p.1.1∧Rn.done p.1.1=true∧Rn.code p.1.1=c):=
 ⟨_,LX r c m (by omega),⟨h1,h2,h3,h4,fun _=>h4,rfl,(fun h=>by cases h),(fun h=>by cases h)⟩,rfl,rfl⟩
theorem EG {n:Nat} {r:U1} (h:rq n r) (c m:Int):Ok (g.bh r c m) (fun p=>SP n r p.1.1∧Rn.done p.1.1=true∧Rn.code p.1.1=c):=jL n c m rfl rfl (Nat.le_succ_of_le h.list) (Nat.le_succ_of_le h.said) h.small
abbrev xV:=((U1×(Int×Unit))×(T2×Unit))
def LY (n:Nat) (r:U1) (c0:T1) (a j m:Nat) (x:xV):Prop:=SP n r x.1.1∧AR c0 x.2.1 a j m
theorem da (a b:Int):Ok (g.ib a b) (fun _=>True):=⟨_,tX a b,trivial⟩
theorem FA {n:Nat} {r:U1} (h:rq n r) (ho:Rn.op r=7) (GP:Rn.pc r≠0) {c0:T1} {d0:T2} {a j m:Nat} (hA:AR c0 d0 a j m) (p:m5):Ok (g.kP p a r c0 d0) (LY n r c0 a j m):=by
 unfold g.kP
 obtain ⟨h1,h2,h3,h4,h5,h6,h7,h8⟩:=h
 have hl:(Rn.list r).length≤n+1:=by omega
 have hs:(Rn.said r).length≤n+1:=by omega
 have Mj:Rn.pc r=5∨Rn.pc r=2∨Rn.pc r=3∨Rn.pc r=4:=by
  have GP:¬Rn.pc r=0:=GP
  unfold dw at h8;rw [ho] at h8;omega
 have hd:∀{x y:Option xV} {P:xV→Prop},Ok y P→Ok (br (Rn.done r) x y) P:=fun {x y P} k=>by rw [h4];exact k
 have fin:∀(r':U1) (d':T2),r'.1=r.1→Rn.ch r'=Rn.ch r→Rn.list r'=Rn.list r→Rn.said r'=Rn.said r→Rn.done r'=Rn.done r→Rn.dZ r'=Rn.dZ r→(Rn.pc r'=2∨Rn.pc r'=3∨Rn.pc r'=4)→AR c0 d' a j m→Ok (some ((r',(0,())),(d',()))) (LY n r c0 a j m):=fun r' d' e1 e2 e3 e4 e5 e6 e7 rW=>
  .some ⟨⟨e1,e2,by rw [e3];exact hl,by rw [e4];exact hs,fun e=>absurd (h4.symm.trans (e5.symm.trans e)) (by simp),e6.trans (h5.trans (h4.symm.trans e5.symm)),fun _ e=>by have e:Rn.pc r'=20∨Rn.pc r'=21:=e;omega,fun _=>.inr (.inr (.inl ⟨ho,by rcases e7 with e | e | e<;>rw [e]<;>decide⟩))⟩,rW⟩
 refine .br (fun hp=>.jn (hd (.bd (cC hA _ _) fun q _=>fin _ _ rfl rfl rfl rfl rfl rfl (.inl rfl) hA))) fun n1=>.br (fun hp=>.jn (hd (.bd (bF _ _ _) fun q _=>.bd (dI hA _) fun q _=>fin _ _ rfl rfl rfl rfl rfl rfl (.inr (.inl rfl)) hA))) fun n2=>.br (fun hp=>.jn (hd (.bd (bF _ _ _) fun q _=>.bd (dI hA _) fun q _=>fin _ _ rfl rfl rfl rfl rfl rfl (.inr (.inr rfl)) hA))) fun n3=>.br (fun hp=>.jn (hd (.bd (da _ _) fun q _=>.bd (dc _) fun q _=>.bd (bF _ _ _) fun q _=>.bd (iD hA _ _ _ _ _ _) fun q hq=>.br (fun _=>.bd (jL n _ _ rfl rfl hl hs h7) fun q hh=>.some ⟨hh.1,hq⟩) fun _=>.bd (eW _) fun q _=>.bd (jL n _ _ rfl rfl hl hs h7) fun q hh=>.some ⟨hh.1,hq⟩))) fun n4=>?_
 have n1:¬Rn.pc r=_:=cu.1 n1;have n2:¬Rn.pc r=_:=cu.1 n2;have n3:¬Rn.pc r=_:=cu.1 n3;have n4:¬Rn.pc r=_:=cu.1 n4
 omega
theorem D7 {n:Nat} {r:U1} (h:rq n r) (ho:Rn.op r=4) (GP:Rn.pc r≠0) {c0:T1} {d0:T2} {a j m:Nat} (hA:AR c0 d0 a j m) (p:m5):Ok (g.iS p a r c0 d0) (LY n r c0 a j m):=by
 unfold g.iS
 obtain ⟨h1,h2,h3,h4,h5,h6,h7,h8⟩:=h
 have hl:(Rn.list r).length≤n+1:=by omega
 have hs:(Rn.said r).length≤n+1:=by omega
 have Mj:Rn.pc r=13∨Rn.pc r=14:=by
  have GP:¬Rn.pc r=0:=GP
  unfold dw at h8;rw [ho] at h8;omega
 have hd:∀{x y:Option xV} {P:xV→Prop},Ok y P→Ok (br (Rn.done r) x y) P:=fun {x y P} k=>by rw [h4];exact k
 have fin:∀(r':U1) (d':T2),r'.1=r.1→Rn.ch r'=Rn.ch r→Rn.list r'=Rn.list r→Rn.said r'=Rn.said r→Rn.done r'=Rn.done r→Rn.dZ r'=Rn.dZ r→(Rn.pc r'=13∨Rn.pc r'=14)→AR c0 d' a j m→Ok (some ((r',(0,())),(d',()))) (LY n r c0 a j m):=fun r' d' e1 e2 e3 e4 e5 e6 e7 rW=>
  .some ⟨⟨e1,e2,by rw [e3];exact hl,by rw [e4];exact hs,fun e=>absurd (h4.symm.trans (e5.symm.trans e)) (by simp),e6.trans (h5.trans (h4.symm.trans e5.symm)),fun _ e=>by have e:Rn.pc r'=20∨Rn.pc r'=21:=e;omega,fun _=>.inr (.inr (.inr (.inl ⟨ho,e7⟩)))⟩,rW⟩
 refine .bd (bF _ _ _) fun q _=>.br (fun hp=>.jn (hd (.bd (dI hA _) fun q _=>.bd (ck _) fun q _=>.fI (fa _ _) (.br (fun _=>fin _ _ rfl rfl rfl rfl rfl rfl (.inl (cQ.1 hp)) hA) fun _=>.br (fun _=>.bd (cV _) fun q _=>fin _ _ rfl rfl rfl rfl rfl rfl (.inr rfl) hA) fun _=>.bd (jL n _ _ rfl rfl hl hs h7) fun q hh=>.some ⟨hh.1,hA⟩)))) fun n1=>.br (fun hp=>.jn (hd (.bd (kN hA _ _ _) fun q hq=>.br (fun _=>.bd (jL n _ _ rfl rfl hl hs h7) fun q hh=>.some ⟨hh.1,hq⟩) fun _=>fin _ _ rfl rfl rfl rfl rfl rfl (.inl rfl) hq))) fun n2=>?_
 have n1:¬Rn.pc r=_:=cu.1 n1;have n2:¬Rn.pc r=_:=cu.1 n2
 omega
open Go.Bm Go.oT
theorem cN {l:List (Int×Bool)} (hl:l.length≤100) (p:m5) (w:Int):Ok (g.cJ p l w) (fun _=>True):=by
 unfold g.cJ
 exact .bd (bY _) fun q _=>.oi (fun _=>True) (fun s _=>.br (fun _=>.some trivial) fun _=>.fI (nh _ (by omega)) (.br (fun _=>.some trivial) fun _=>.some trivial)) fun k hk=>.br (fun _=>hk _ trivial) fun _=>hk _ trivial
theorem df {l:List (Int×Bool)} (hl:l.length≤100) (s b:Int):Ok (g.jh l s b) (fun _=>True):=⟨_,rZ s b (by omega),trivial⟩
def rF (u:U7):U1:=((u.2.2.2.2.2.1,(u.2.2.2.2.2.2.1,(u.2.2.2.2.2.2.2.1,(u.2.2.2.2.2.2.2.2.1,(u.2.2.2.2.2.2.2.2.2.1,(u.2.2.2.2.2.2.2.2.2.2.1,u.2.2.2.2.2.2.2.2.2.2.2.1)))))),(u.2.2.2.2.2.2.2.2.2.2.2.2.1,(u.2.2.2.2.2.2.2.2.2.2.2.2.2.1,(u.2.2.2.2.2.2.2.2.2.2.2.2.2.2.1,(u.2.2.2.2.2.2.2.2.2.2.2.2.2.2.2.1,(u.2.2.2.2.2.2.2.2.2.2.2.2.2.2.2.2.1,(u.2.2.2.2.2.2.2.2.2.2.2.2.2.2.2.2.2.1,(u.2.2.2.2.2.2.2.2.2.2.2.2.2.2.2.2.2.2.1,(u.2.2.2.2.2.2.2.2.2.2.2.2.2.2.2.2.2.2.2.1,(u.2.2.2.2.2.2.2.2.2.2.2.2.2.2.2.2.2.2.2.2.1,(u.2.2.2.2.2.2.2.2.2.2.2.2.2.2.2.2.2.2.2.2.2.1,(u.2.2.2.2.2.2.2.2.2.2.2.2.2.2.2.2.2.2.2.2.2.2.1,(u.2.2.2.2.2.2.2.2.2.2.2.2.2.2.2.2.2.2.2.2.2.2.2.1,(u.2.2.2.2.2.2.2.2.2.2.2.2.2.2.2.2.2.2.2.2.2.2.2.2.1,(u.2.2.2.2.2.2.2.2.2.2.2.2.2.2.2.2.2.2.2.2.2.2.2.2.2.1,(u.2.2.2.2.2.2.2.2.2.2.2.2.2.2.2.2.2.2.2.2.2.2.2.2.2.2.1,(u.2.2.2.2.2.2.2.2.2.2.2.2.2.2.2.2.2.2.2.2.2.2.2.2.2.2.2.1,(u.2.2.2.2.2.2.2.2.2.2.2.2.2.2.2.2.2.2.2.2.2.2.2.2.2.2.2.2.1,(u.2.2.2.2.2.2.2.2.2.2.2.2.2.2.2.2.2.2.2.2.2.2.2.2.2.2.2.2.2.1,u.2.2.2.2.2.2.2.2.2.2.2.2.2.2.2.2.2.2.2.2.2.2.2.2.2.2.2.2.2.2.1)))))))))))))))))))
theorem B2 {n:Nat} {r:U1} (h:rq n r) (ho:Rn.op r≠4∧Rn.op r≠5∧Rn.op r≠7) (GP:Rn.pc r≠0∧Rn.pc r≠1) {c0:T1} {d0:T2} {a j m:Nat} (hA:AR c0 d0 a j m) (p:m5):Ok (g.jX p a r c0 d0) (LY n r c0 a j m):=by
 unfold g.jX
 obtain ⟨h1,h2,h3,h4,h5,h6,h7,h8⟩:=h
 have hl:(Rn.list r).length≤n+1:=by omega
 have hs:(Rn.said r).length≤n+1:=by omega
 have nE:(Rn.op r=8∧(Rn.pc r=5∨Rn.pc r=6∨Rn.pc r=9))∨(Rn.op r=9∧(Rn.pc r=5∨Rn.pc r=6∨Rn.pc r=7∨Rn.pc r=8∨Rn.pc r=10))∨(Rn.op r=10∧Rn.pc r=11)∨(Rn.op r=11∧(Rn.pc r=12∨Rn.pc r=7∨Rn.pc r=8)):=by
  unfold dw at h8;omega
 have hd:∀{x y:Option xV} {P:xV→Prop},Ok y P→Ok (br (Rn.done r) x y) P:=fun {x y P} k=>by rw [h4];exact k
 have tell:∀(r':U1) (c k:Int) (d':T2),r'.1=r.1→Rn.ch r'=Rn.ch r→Rn.list r'=Rn.list r→Rn.said r'=Rn.said r→AR c0 d' a j m→Ok (bd (g.bh r' c k) (fun p=>some ((p.1.1,(0,())),(d',())))) (LY n r c0 a j m):=fun r' c k d' e1 e2 e3 e4 rW=>
  .bd (jL n c k e1 e2 (by rw [e3];exact hl) (by rw [e4];exact hs) h7) fun q hh=>.some ⟨hh.1,rW⟩
 have fin:∀(r':U1) (d':T2),r'.1=r.1→Rn.ch r'=Rn.ch r→Rn.list r'=Rn.list r→Rn.said r'=Rn.said r→Rn.done r'=Rn.done r→Rn.dZ r'=Rn.dZ r→dw (Rn.op r) (Rn.pc r')→AR c0 d' a j m→Ok (some ((r',(0,())),(d',()))) (LY n r c0 a j m):=fun r' d' e1 e2 e3 e4 e5 e6 e7 rW=>
  .some ⟨⟨e1,e2,by rw [e3];exact hl,by rw [e4];exact hs,fun e=>absurd (h4.symm.trans (e5.symm.trans e)) (by simp),e6.trans (h5.trans (h4.symm.trans e5.symm)),fun _ e=>by have e:Rn.pc r'=20∨Rn.pc r'=21:=e;unfold dw at e7;omega,fun _=>e7⟩,rW⟩
 have pcs:∀k:Int,Rn.pc r=k→dw (Rn.op r) k:=fun k e=>e▸h8
 refine .jn (hd (.fI (aP _ _ _) (.br (fun hb=>?_) fun _=>.jn ?_)))
 ·have hb:=iv.1 hb
  have hw:within (Rn.pc r) 5 12=true:=dJ.2 (by omega)
  rw [show r.2.1=Rn.pc r from rfl,hw] at hb;cases hb
 refine .br (fun hp=>?_) fun n1=>.br (fun hp=>?_) fun n2=>.br (fun hp=>?_) fun n3=>.br (fun hp=>?_) fun n4=>?_
 ·have hp:Rn.pc r=5:=cQ.1 hp
  have q1:dw (Rn.op r) 6:=by unfold dw;omega
  refine .bd (bY _) fun q _=>.bd (cC hA _ _) fun q _=>.br (fun _=>?_) fun _=>?_
  ·exact .br (fun _=>tell _ _ _ _ rfl rfl rfl rfl hA) fun _=>fin _ _ rfl rfl rfl rfl rfl rfl q1 hA
  ·exact .br (fun _=>tell _ _ _ _ rfl rfl rfl rfl hA) fun _=>fin _ _ rfl rfl rfl rfl rfl rfl q1 hA
 ·have hp:Rn.pc r=6:=cQ.1 hp
  have q0:=pcs _ hp
  refine .bd (bY _) fun q _=>.bd (cU hA _) fun q _=>.br (fun _=>?_) fun _=>.br (fun _=>?_) fun _=>.br (fun _=>?_) fun _=>.fI (aP _ _ _) (.br (fun _=>?_) fun _=>.bd (c_ hA _ _) fun q _=>.br (fun e8=>?_) fun n8=>.br (fun e8=>?_) fun _=>.bd (cN h3 _ _) fun q _=>?_)
  ·exact .br (fun _=>tell _ _ _ _ rfl rfl rfl rfl hA) fun _=>fin _ _ rfl rfl rfl rfl rfl rfl h8 hA
  ·exact .br (fun _=>tell _ _ _ _ rfl rfl rfl rfl hA) fun _=>fin _ _ rfl rfl rfl rfl rfl rfl h8 hA
  ·exact .br (fun _=>tell _ _ _ _ rfl rfl rfl rfl hA) fun _=>fin _ _ rfl rfl rfl rfl rfl rfl h8 hA
  ·exact .br (fun _=>tell _ _ _ _ rfl rfl rfl rfl hA) fun _=>fin _ _ rfl rfl rfl rfl rfl rfl h8 hA
  ·have e8:Rn.op r=8:=cQ.1 e8
   have q1:dw (Rn.op r) 9:=by unfold dw;omega
   exact .br (fun _=>tell _ _ _ _ rfl rfl rfl rfl hA) fun _=>fin _ _ rfl rfl rfl rfl rfl rfl q1 hA
  ·have n8:¬Rn.op r=8:=cu.1 n8
   have q1:dw (Rn.op r) 10:=by unfold dw;omega
   exact .br (fun _=>tell _ _ _ _ rfl rfl rfl rfl hA) fun _=>fin _ _ rfl rfl rfl rfl rfl rfl q1 hA
  ·have n8:¬Rn.op r=8:=cu.1 n8
   have q1:dw (Rn.op r) 7:=by unfold dw;omega
   exact .br (fun _=>tell _ _ _ _ rfl rfl rfl rfl hA) fun _=>fin _ _ rfl rfl rfl rfl rfl rfl q1 hA
 ·have hp:Rn.pc r=7:=cQ.1 hp
  have q1:dw (Rn.op r) 8:=by unfold dw;omega
  refine .bd (bY _) fun q _=>.bd (cC hA _ _) fun q _=>.br (fun _=>?_) fun _=>?_
  ·exact .br (fun _=>tell _ _ _ _ rfl rfl rfl rfl hA) fun _=>fin _ _ rfl rfl rfl rfl rfl rfl q1 hA
  ·exact .br (fun _=>tell _ _ _ _ rfl rfl rfl rfl hA) fun _=>fin _ _ rfl rfl rfl rfl rfl rfl q1 hA
 ·have hp:Rn.pc r=8:=cQ.1 hp
  refine .bd (bY _) fun q _=>.oi (fun s=>rF s.2.2.2.1.1=r) (fun s AM=>?_) fun k hk=>.bd (cU hA _) fun q _=>.br (fun _=>hk _ rfl) fun _=>.br (fun _=>hk _ rfl) fun _=>.br (fun _=>hk _ rfl) fun _=>hk _ rfl
  have e1:(rF s.2.2.2.1.1).1=r.1:=congrArg (fun r:U1=>r.1) AM
  have e2:Rn.ch (rF s.2.2.2.1.1)=Rn.ch r:=congrArg Rn.ch AM
  have e3:Rn.list (rF s.2.2.2.1.1)=Rn.list r:=congrArg Rn.list AM
  have e4:Rn.said (rF s.2.2.2.1.1)=Rn.said r:=congrArg Rn.said AM
  have e5:Rn.done (rF s.2.2.2.1.1)=Rn.done r:=congrArg Rn.done AM
  have e6:Rn.dZ (rF s.2.2.2.1.1)=Rn.dZ r:=congrArg Rn.dZ AM
  have hc:(Rn.ch (rF s.2.2.2.1.1)).length≤100:=by rw [AM];exact h3
  refine .oi (fun t=>dw (Rn.op r) t.1.2.1) (fun t ht=>.br (fun _=>.bd (df hc _ _) fun q _=>.br (fun _=>?_) fun _=>?_) fun _=>?_) fun k hk=>.br (fun h9=>.bd (bY _) fun q _=>hk _ ?_) fun h9=>hk _ ?_
  ·exact .br (fun _=>tell _ _ _ _ (by exact e1) (by exact e2) (by exact e3) (by exact e4) hA) fun _=>fin _ _ (by exact e1) (by exact e2) (by exact e3) (by exact e4) (by exact e5) (by exact e6) ht hA
  ·exact .br (fun _=>tell _ _ _ _ (by exact e1) (by exact e2) (by exact e3) (by exact e4) hA) fun _=>fin _ _ (by exact e1) (by exact e2) (by exact e3) (by exact e4) (by exact e5) (by exact e6) ht hA
  ·exact .br (fun _=>tell _ _ _ _ (by exact e1) (by exact e2) (by exact e3) (by exact e4) hA) fun _=>fin _ _ (by exact e1) (by exact e2) (by exact e3) (by exact e4) (by exact e5) (by exact e6) ht hA
  ·have h9:Rn.op (rF s.2.2.2.1.1)=9:=cQ.1 h9
   rw [AM] at h9
   show dw (Rn.op r) 10
   unfold dw;omega
  ·have h9:¬Rn.op (rF s.2.2.2.1.1)=9:=cu.1 h9
   rw [AM] at h9
   show dw (Rn.op r) 12
   unfold dw;omega
 ·exact .oi (fun s=>AR c0 s.2.2.2.2.1 a j m) (fun s h'=>.bd (jL n _ _ rfl rfl hl hs h7) fun q hh=>.some ⟨hh.1,h'⟩) fun k hk=>
   .oi (fun _=>True) (fun s _=>.bd (fl hA _ _) fun q hq=>hk _ hq) fun k2 DD=>.oi (fun _=>True) (fun s _=>.bd (dI hA _) fun q _=>hk _ hA) fun k3 hk3=>.br (fun _=>.bd (bF _ _ _) fun q _=>hk3 _ trivial) fun _=>.br (fun _=>hk3 _ trivial) fun _=>.br (fun _=>.bd (bF _ _ _) fun q _=>DD _ trivial) fun _=>DD _ trivial
end Go.Proofs.YtfffmmahegdfiaaGreat
namespace Go.oT
open Go.Bm
def Ks (o:oU):Prop:=(0≤o.1∧o.1≤4)∧(0≤o.2.1∧o.2.1≤99)∧(0≤o.2.2∧o.2.2≤8)
def vi (l:List oU):Prop:=l.length≤8∧∀o∈l,Ks o
def DZ (l:List (List oU)):Prop:=l.length≤8∧∀x∈l,vi x
end Go.oT
namespace Go.Proofs.YtfffmmahegdfiaaGreat
open Go.Bm Go.oT
theorem Jh {α:Type} (x:α):zN (len [x])=1:=by rw [fQ,aL];rfl
theorem BV {α:Type} (x y:α):zN (len [x,y])=2:=by rw [fQ,aL];rfl
theorem xQ {α:Type} (l:List α):cat [] l=l:=rfl
section
variable (a0:List oU) (a1:Int) (a2:List Int)
theorem sS {x:Int} (hl:a2.length≤100) (h:within x 0 (aJ .i64 (zN (len (cat [] a2))) 1)=true):0≤x∧x<a2.length:=by
 rw [xQ,fQ,aL,bV (by omega),dJ] at h;omega
theorem fl2 {K} {P} (hl:a2.length≤100) (hK:∀b,(b=true→0≤(nth (0,(0,0)) a0 (nN a1)).2.1∧(nth (0,(0,0)) a0 (nN a1)).2.1<a2.length)→Ok (K ((b,()),((),((),((),()))))) P):Ok (loop (g.mr a0 a1 a2 K) ((0,()),((),((),((),()))))) P:=by
 refine .loop (fun m s=>(s.1.1=0∧m=1)∨(s.1.1=1∧m=0∧0≤(nth (0,(0,0)) a0 (nN a1)).2.1∧(nth (0,(0,0)) a0 (nN a1)).2.1<a2.length)) (fun m s gg hI ih=>?_) (N:=1) (by unfold lu;omega) (.inl ⟨rfl,rfl⟩)
 unfold g.mr
 rw [Jh]
 refine .br (fun hb=>?_) fun hb=>hK _ fun _=>?_
 ·have hb:=d_.1 hb
  have hs:s.1.1=0:=by omega
  rw [hs]
  refine .gd (by rw [bH];omega) (.gd (by rw [bQ,dS,aL,zO];omega) (.fI (aP _ _ _) (.br (fun _=>hK _ fun e=>?_) fun hw=>ih 0 _ (by omega) (.inr ⟨rfl,rfl,sS a2 hl (g6.1 hw)⟩))))
  exact absurd e (by decide)
 ·have hb:=kr.1 hb;omega
theorem fl1 {K} {P} (hl:a2.length≤100) (hK:∀b,(b=true→(0≤(nth (0,(0,0)) a0 (nN a1)).2.1∧(nth (0,(0,0)) a0 (nN a1)).2.1<a2.length)∧0≤(nth (0,(0,0)) a0 (nN a1)).2.2∧(nth (0,(0,0)) a0 (nN a1)).2.2<a2.length)→Ok (K ((b,()),((),((),((),()))))) P):Ok (loop (g.mu a0 a1 a2 K) ((0,()),((),((),((),()))))) P:=by
 refine .loop (fun m s=>(s.1.1=0∧m=2)∨(s.1.1=1∧m=1∧0≤(nth (0,(0,0)) a0 (nN a1)).2.1∧(nth (0,(0,0)) a0 (nN a1)).2.1<a2.length)∨(s.1.1=2∧m=0∧(0≤(nth (0,(0,0)) a0 (nN a1)).2.1∧(nth (0,(0,0)) a0 (nN a1)).2.1<a2.length)∧0≤(nth (0,(0,0)) a0 (nN a1)).2.2∧(nth (0,(0,0)) a0 (nN a1)).2.2<a2.length)) (fun m s gg hI ih=>?_) (N:=2) (by unfold lu;omega) (.inl ⟨rfl,rfl⟩)
 unfold g.mu
 rw [BV]
 refine .br (fun hb=>?_) fun hb=>hK _ fun _=>?_
 ·have hb:=d_.1 hb
  rcases hI with ⟨hs,hm⟩ | ⟨hs,hm,h1⟩ | ⟨hs,hm,h1⟩
  ·rw [hs]
   refine .gd (by rw [bH];omega) (.gd (by rw [bQ,dS,aL];show _<2;omega) (.fI (aP _ _ _) (.br (fun _=>hK _ fun e=>absurd e (by decide)) fun hw=>ih 1 _ (by omega) (.inr (.inl ⟨rfl,rfl,sS a2 hl (g6.1 hw)⟩)))))
  ·rw [hs]
   refine .gd (by rw [bH];omega) (.gd (by rw [bQ,dS,aL];show _<2;omega) (.fI (aP _ _ _) (.br (fun _=>hK _ fun e=>absurd e (by decide)) fun hw=>ih 0 _ (by omega) (.inr (.inr ⟨rfl,rfl,h1,sS a2 hl (g6.1 hw)⟩)))))
  ·omega
 ·have hb:=kr.1 hb;omega
theorem fl0 {K} {P} (hl:a2.length≤100) (hK:∀b,Ok (K ((b,()),((),((),((),()))))) P):Ok (loop (g.mv a0 a1 a2 K) ((0,()),((),((),((),()))))) P:=by
 refine .loop (fun m s=>(s.1.1=0∧m=1)∨(s.1.1=1∧m=0∧0≤(nth (0,(0,0)) a0 (nN a1)).2.1∧(nth (0,(0,0)) a0 (nN a1)).2.1<a2.length)) (fun m s gg hI ih=>?_) (N:=1) (by unfold lu;omega) (.inl ⟨rfl,rfl⟩)
 unfold g.mv
 rw [Jh]
 refine .br (fun hb=>?_) fun hb=>?_
 ·have hb:=d_.1 hb
  have hs:s.1.1=0:=by omega
  rw [hs]
  refine .gd (by rw [bH];omega) (.gd (by rw [bQ,dS,aL,zO];omega) (.fI (aP _ _ _) (.br (fun _=>.br (fun e=>absurd e (by decide)) fun _=>hK _) fun hw=>ih 0 _ (by omega) (.inr ⟨rfl,rfl,sS a2 hl (g6.1 hw)⟩))))
 ·have hb:=kr.1 hb
  rcases hI with h | ⟨h1,h2,h3,h4⟩
  ·omega
  ·exact .gd (by rw [bH];omega) (.gd (by rw [bQ,dS,xQ,aL];omega) (hK _))
theorem vW (nD:vi a0) (hl:a2.length≤100):Ok (g.mw a0 a1 a2) (fun r=>r.1.2.1.length=a2.length∧r.1.2.2.1.length≤1):=by
 unfold g.mw
 refine .gd (by rw [db,aL];show 0+_≤_;omega) (.fI (aP _ _ _) (.br (fun _=>.some ⟨rfl,by show 0≤1;omega⟩) fun hw=>?_))
 have hw:=g6.1 hw
 have hlen:=nD.1
 rw [fQ,aL,bV (by omega),dJ] at hw
 have ho:Ks (nth (0,(0,0)) a0 (nN a1)):=by
  have:nth (0,(0,0)) a0 (nN a1)∈a0:=by
   unfold nth
   rw [dS,zA,zD (show a1.toNat<a0.length by omega)]
   exact List.getElem_mem _
  exact nD.2 _ this
 obtain ⟨⟨o1,o2⟩,o3,o4⟩:=ho
 refine .gd (by rw [bH];omega) (.gd (by rw [bQ,dS,aL];omega) (.oi (fun s=>s.2.2.2.1.1.1.length=a2.length∧s.2.2.2.1.1.2.1.length≤1) (fun s hs=>.some hs) fun k hk=>?_))
 have z:([]:List Int).length≤1:=by decide
 refine .br (fun _=>.br (fun _=>.gd (by rw [db,aL];show 1≤_;omega) (hk _ ⟨rfl,Nat.le_refl 1⟩)) fun n0=>.br (fun _=>.jn (fl2 a0 a1 a2 hl fun b hb=>.br (fun e=>?_) fun _=>hk _ ⟨rfl,z⟩)) fun n1=>.br (fun _=>.jn (fl1 a0 a1 a2 hl fun b hb=>.br (fun e=>?_) fun _=>hk _ ⟨rfl,z⟩)) fun n2=>.br (fun _=>.jn (fl0 a0 a1 a2 hl fun b=>.br (fun _=>hk _ ⟨rfl,z⟩) fun _=>hk _ ⟨rfl,z⟩)) fun n3=>.br (fun _=>hk _ ⟨rfl,z⟩) fun n4=>?_) fun _=>hk _ ⟨rfl,z⟩
 ·have:=hb e
  exact .gd (by rw [bH];omega) (.gd (by rw [bQ,dS,xQ,aL];omega) (hk _ ⟨by show (aY (cat [] a2) _ _).length=_;rw [xQ];unfold aY;rw [zM],z⟩))
 ·have:=hb e
  exact .gd (by rw [bH];omega) (.gd (by rw [bQ,dS,xQ,aL];omega) (.gd (by rw [bH];omega) (.gd (by rw [bQ,dS,xQ,aL];omega) (hk _ ⟨by show (aY (cat [] a2) _ _).length=_;rw [xQ];unfold aY;rw [zM],z⟩))))
 ·have n0:=cu.1 n0;have n1:=cu.1 n1;have n2:=cu.1 n2;have n3:=cu.1 n3;have n4:=cu.1 n4
  omega
end
theorem Br {x y:List Int} (hx:x.length≤1000000) (hy:y.length≤1000000):Ok (g.iV [x,y]) (fun r=>r.1.1.length=x.length+y.length):=by
 unfold g.iV
 refine .loop (fun m s=>0≤s.1.1∧((s.1.2.1=0∧m=2∧s.1.1=0)∨(s.1.2.1=1∧m=1∧s.1.1≤1000000)∨(s.1.2.1=2∧m=0∧s.1.1≤2000000))) (fun m s gg hI ih=>?_) (N:=2) (by unfold lu;omega) ⟨by decide,.inl ⟨rfl,rfl,rfl⟩⟩
 unfold g.kQ
 rw [BV]
 refine .br (fun hb=>?_) fun hb=>?_
 ·have hb:=d_.1 hb
  obtain ⟨h0,⟨h1,h2,h3⟩ | ⟨h1,h2,h3⟩ | ⟨h1,h2,h3⟩⟩:=hI
  ·have e:ae .i64 s.1.1 (zN (len x))=s.1.1+x.length:=by rw [fQ,aL];exact a_ (by omega)
   rw [h1]
   refine .gd (by rw [bH];omega) (.gd (by rw [bQ,dS,aL];show _<2;omega) (.br (fun hb=>?_) fun _=>ih 1 _ (by omega) ⟨?_,.inr (.inl ⟨rfl,rfl,?_⟩)⟩))
   ·have hb:bb (ae .i64 s.1.1 (zN (len x))) 0=true:=hb
    rw [e] at hb;have:=d_.1 hb;omega
   ·show 0≤ae .i64 s.1.1 (zN (len x));omega
   ·show ae .i64 s.1.1 (zN (len x))≤_;omega
  ·have e:ae .i64 s.1.1 (zN (len y))=s.1.1+y.length:=by rw [fQ,aL];exact a_ (by omega)
   rw [h1]
   refine .gd (by rw [bH];omega) (.gd (by rw [bQ,dS,aL];show _<2;omega) (.br (fun hb=>?_) fun _=>ih 0 _ (by omega) ⟨?_,.inr (.inr ⟨rfl,rfl,?_⟩)⟩))
   ·have hb:bb (ae .i64 s.1.1 (zN (len y))) 0=true:=hb
    rw [e] at hb;have:=d_.1 hb;omega
   ·show 0≤ae .i64 s.1.1 (zN (len y));omega
   ·show ae .i64 s.1.1 (zN (len y))≤_;omega
  ·omega
 ·have hb:=kr.1 hb
  refine .jn (.gd (by rw [bH];omega) (.gd (by rw [db,dS];omega) ?_))
  refine .loop (fun m s=>(s.1.1=0∧m=2∧s.2.1.1.length=0)∨(s.1.1=1∧m=1∧s.2.1.1.length=x.length)∨(s.1.1=2∧m=0∧s.2.1.1.length=x.length+y.length)) (fun m s gg hI ih=>?_) (N:=2) (by unfold lu;omega) (.inl ⟨rfl,rfl,rfl⟩)
  unfold g.kR
  rw [BV]
  refine .br (fun hb=>?_) fun hb=>?_
  ·have hb:=d_.1 hb
   rcases hI with ⟨h1,h2,h3⟩ | ⟨h1,h2,h3⟩ | ⟨h1,h2,h3⟩
   ·rw [h1]
    refine .gd (by rw [bH];omega) (.gd (by rw [bQ,dS,aL];show _<2;omega) (.gd (by show bt (aN (len s.2.1.1) (len x)) _;rw [db,aL,aL];show _+_≤_;omega) (ih 1 _ (by omega) (.inr (.inl ⟨rfl,rfl,?_⟩)))))
    show (s.2.1.1++x).length=_
    rw [zY];omega
   ·rw [h1]
    refine .gd (by rw [bH];omega) (.gd (by rw [bQ,dS,aL];show _<2;omega) (.gd (by show bt (aN (len s.2.1.1) (len y)) _;rw [db,aL,aL];show _+_≤_;omega) (ih 0 _ (by omega) (.inr (.inr ⟨rfl,rfl,?_⟩)))))
    show (s.2.1.1++y).length=_
    rw [zY];omega
   ·omega
  ·have hb:=kr.1 hb
   refine .some ?_
   show s.2.1.1.length=_
   omega
open Go.Bm Go.oT
def sT (u:(Int×(Int×(Int×(Int×((Option Nat)×((Option Nat)×U5))))))):U1:=((u.2.2.2.2.2.2.1,(u.2.2.2.2.2.2.2.1,(u.2.2.2.2.2.2.2.2.1,(u.2.2.2.2.2.2.2.2.2.1,(u.2.2.2.2.2.2.2.2.2.2.1,(u.2.2.2.2.2.2.2.2.2.2.2.1,u.2.2.2.2.2.2.2.2.2.2.2.2.1)))))),(u.2.2.2.2.2.2.2.2.2.2.2.2.2.1,(u.2.2.2.2.2.2.2.2.2.2.2.2.2.2.1,(u.2.2.2.2.2.2.2.2.2.2.2.2.2.2.2.1,(u.2.2.2.2.2.2.2.2.2.2.2.2.2.2.2.2.1,(u.2.2.2.2.2.2.2.2.2.2.2.2.2.2.2.2.2.1,(u.2.2.2.2.2.2.2.2.2.2.2.2.2.2.2.2.2.2.1,(u.2.2.2.2.2.2.2.2.2.2.2.2.2.2.2.2.2.2.2.1,(u.2.2.2.2.2.2.2.2.2.2.2.2.2.2.2.2.2.2.2.2.1,(u.2.2.2.2.2.2.2.2.2.2.2.2.2.2.2.2.2.2.2.2.2.1,(u.2.2.2.2.2.2.2.2.2.2.2.2.2.2.2.2.2.2.2.2.2.2.1,(u.2.2.2.2.2.2.2.2.2.2.2.2.2.2.2.2.2.2.2.2.2.2.2.1,(u.2.2.2.2.2.2.2.2.2.2.2.2.2.2.2.2.2.2.2.2.2.2.2.2.1,(u.2.2.2.2.2.2.2.2.2.2.2.2.2.2.2.2.2.2.2.2.2.2.2.2.2.1,(u.2.2.2.2.2.2.2.2.2.2.2.2.2.2.2.2.2.2.2.2.2.2.2.2.2.2.1,(u.2.2.2.2.2.2.2.2.2.2.2.2.2.2.2.2.2.2.2.2.2.2.2.2.2.2.2.1,(u.2.2.2.2.2.2.2.2.2.2.2.2.2.2.2.2.2.2.2.2.2.2.2.2.2.2.2.2.1,(u.2.2.2.2.2.2.2.2.2.2.2.2.2.2.2.2.2.2.2.2.2.2.2.2.2.2.2.2.2.1,(u.2.2.2.2.2.2.2.2.2.2.2.2.2.2.2.2.2.2.2.2.2.2.2.2.2.2.2.2.2.2.1,u.2.2.2.2.2.2.2.2.2.2.2.2.2.2.2.2.2.2.2.2.2.2.2.2.2.2.2.2.2.2.2.1)))))))))))))))))))
abbrev L2:=((U1×(Int×Unit))×(T1×(T2×(T9×Unit))))
def Mw (n:Nat) (r:U1) (c0:T1) (a j m:Nat) (d9:T9) (x:L2):Prop:=SP n r x.1.1∧x.2.1=c0∧AR c0 x.2.2.1 a j m∧x.2.2.2.1=d9
def ER (fo:Option Nat) (d9:T9):Prop:=∃je,DZ je∧((fo=none∧je=[])∨∃jf,fo=some jf∧aZ d9 jf=some je)
theorem sJ {fo:Option Nat} {d9:T9} (h:ER fo d9) (t:Int):Ok (g.mz fo t d9) (fun r=>vi r.1.1):=by
 have z:vi []:=⟨by decide,fun o h=>by cases h⟩
 obtain ⟨je,hf,⟨rfl,rfl⟩ | ⟨jf,rfl,hj⟩⟩:=h
 ·unfold g.mz
  refine .Ai rfl (.fI (aP _ _ _) (.br (fun _=>.some z) fun hb=>?_))
  have:=dJ.1 (g6.1 hb);omega
 ·unfold g.mz
  have h8:=hf.1
  refine .gJ rfl (.fI hj (.fI (aP _ _ _) (.br (fun _=>.some z) fun hb=>?_)))
  have hb:=dJ.1 (g6.1 hb)
  rw [fQ,aL,bV (by omega)] at hb
  refine .gJ rfl (.fI hj (.gd (by rw [bH];omega) (.gd (by rw [bQ,dS,aL];omega) (.fI hj (.some ?_)))))
  show vi (nth [] je (nN t))
  unfold nth
  rw [dS,zA,zD (show t.toNat<je.length by omega)]
  exact hf.2 _ (List.getElem_mem _)
theorem ne_nil {α:Type} {l:List α} (h:bb 0 (zN (len l))=true):l≠[]:=by
 intro e
 rw [e,fQ,aL] at h;have:=d_.1 h;exact absurd this (by simp)
theorem Jn {l:List Int} (h:l≠[]) (hl:l.length≤1000000):aJ .i64 (zN (len l)) 1=((l.length-1:Nat):Int)∧l.length-1<l.length:=by
 have:0<l.length:=List.length_pos_iff.2 h
 rw [fQ,aL,bV (by omega)]
 exact ⟨by omega,by omega⟩
theorem vF {n:Nat} {r:U1} (h:rq n r) (ho:Rn.op r=5) (GP:Rn.pc r≠0) {c0:T1} {d0:T2} {a j m:Nat} (hA:AR c0 d0 a j m) (p:m5) {fo:Option Nat} {d9:T9} (hf:ER fo d9):Ok (g.ia p fo a r c0 d0 d9) (Mw n r c0 a j m d9):=by
 unfold g.ia
 obtain ⟨h1,h2,h3,h4,h5,h6,h7,h8⟩:=h
 have hl:(Rn.list r).length≤n+1:=by omega
 have hs:(Rn.said r).length≤n+1:=by omega
 have Mj:15≤Rn.pc r∧Rn.pc r≤26:=by
  have GP:¬Rn.pc r=0:=GP
  unfold dw at h8;rw [ho] at h8;omega
 have hd:∀{x y:Option L2} {P:L2→Prop},Ok y P→Ok (br (Rn.done r) x y) P:=fun {x y P} k=>by rw [h4];exact k
 have tell:∀(c k:Int) (d':T2),AR c0 d' a j m→Ok (bd (g.bh r c k) (fun p=>some ((p.1.1,(0,())),(c0,(d',(d9,())))))) (Mw n r c0 a j m d9):=fun c k d' rW=>
  .bd (jL n c k rfl rfl hl hs h7) fun q hh=>.some ⟨hh.1,rfl,rW,rfl⟩
 have fin:∀(k:Int) (r':U1) (c':T1) (d':T2),15≤k∧k≤26→Rn.pc r'=k→c'=c0→AR c0 d' a j m→r'.1=r.1→Rn.ch r'=Rn.ch r→Rn.done r'=Rn.done r→Rn.dZ r'=Rn.dZ r→(Rn.list r').length≤n+1→(Rn.said r').length≤n+1→(k=20∨k=21→Rn.list r'≠[])→Ok (some ((r',(0,())),(c',(d',(d9,()))))) (Mw n r c0 a j m d9):=fun k r' c' d' hk e0 ec rW e1 e2 e5 e6 e3 e4 e8=>
  .some ⟨⟨e1,e2,e3,e4,fun e=>absurd (h4.symm.trans (e5.symm.trans e)) (by simp),e6.trans (h5.trans (h4.symm.trans e5.symm)),fun _ e=>e8 (e0▸e),fun _=>.inr (.inr (.inr (.inr (.inl ⟨ho,by show 15≤Rn.pc r'∧Rn.pc r'≤26;rw [e0];exact hk⟩))))⟩,ec,rW,rfl⟩
 have pU:∀(k:Int) (r':U1) (d':T2),15≤k∧k≤26→(¬k=20∧¬k=21)→Rn.pc r'=k→AR c0 d' a j m→r'.1=r.1→Rn.ch r'=Rn.ch r→Rn.done r'=Rn.done r→Rn.dZ r'=Rn.dZ r→Rn.list r'=Rn.list r→Rn.said r'=Rn.said r→Ok (some ((r',(0,())),(c0,(d',(d9,()))))) (Mw n r c0 a j m d9):=fun k r' d' hk DD e0 rW e1 e2 e5 e6 e3 e4=>
  fin k r' c0 d' hk e0 rfl rW e1 e2 e5 e6 (by rw [e3];exact hl) (by rw [e4];exact hs) (fun e=>by omega)
 have D1:∀(r':U1) (d':T2),Rn.pc r'=20→bb 0 (zN (len (Rn.list r')))=true→(Rn.list r').length≤n+1→AR c0 d' a j m→r'.1=r.1→Rn.ch r'=Rn.ch r→Rn.done r'=Rn.done r→Rn.dZ r'=Rn.dZ r→Rn.said r'=Rn.said r→Ok (some ((r',(0,())),(c0,(d',(d9,()))))) (Mw n r c0 a j m d9):=fun r' d' e0 ez e3 rW e1 e2 e5 e6 e4=>
  fin 20 r' c0 d' (by decide) e0 rfl rW e1 e2 e5 e6 e3 (by rw [e4];exact hs) (fun _=>ne_nil ez)
 have qZ:∀(k:Int) (r':U1) (d':T2),15≤k∧k≤26→(¬k=20∧¬k=21)→Rn.pc r'=k→(Rn.list r').length≤n+1→AR c0 d' a j m→r'.1=r.1→Rn.ch r'=Rn.ch r→Rn.done r'=Rn.done r→Rn.dZ r'=Rn.dZ r→Rn.said r'=Rn.said r→Ok (some ((r',(0,())),(c0,(d',(d9,()))))) (Mw n r c0 a j m d9):=fun k r' d' hk DD e0 e3 rW e1 e2 e5 e6 e4=>
  fin k r' c0 d' hk e0 rfl rW e1 e2 e5 e6 e3 (by rw [e4];exact hs) (fun e=>by omega)
 refine .br (fun _=>.jn (hd ?_)) fun n15=>.br (fun _=>.jn (hd ?_)) fun n16=>.br (fun _=>.jn (hd ?_)) fun n17=>.br (fun _=>.jn (hd ?_)) fun n18=>.br (fun _=>.jn (hd ?_)) fun n19=>.br (fun hp=>.jn (hd ?_)) fun n20=>.br (fun hp=>.jn (hd ?_)) fun n21=>.br (fun _=>.jn (hd ?_)) fun n22=>.br (fun _=>.jn (hd ?_)) fun n23=>.br (fun _=>.jn (hd ?_)) fun n24=>.br (fun _=>.jn (hd ?_)) fun n25=>.br (fun _=>.jn (hd ?_)) fun n26=>?_
 ·exact .bd (bF _ _ _) fun q _=>.bd (dI hA _) fun q _=>.bd (ck _) fun q _=>.fI (eZ _) (.bd (cV _) fun q _=>pU 16 _ _ (by decide) (by decide) rfl hA rfl rfl rfl rfl rfl rfl)
 ·exact .bd (bF _ _ _) fun q _=>.bd (kN hA _ _ _) fun q hq=>.bd (ck _) fun q _=>.br (fun _=>pU 15 _ _ (by decide) (by decide) rfl hq rfl rfl rfl rfl rfl rfl) fun _=>.br (fun _=>pU 17 _ _ (by decide) (by decide) rfl hq rfl rfl rfl rfl rfl rfl) fun _=>tell _ _ _ hq
 ·exact .bd (bF _ _ _) fun q _=>.bd (dI hA _) fun q _=>pU 18 _ _ (by decide) (by decide) rfl hA rfl rfl rfl rfl rfl rfl
 ·exact .bd (bF _ _ _) fun q _=>.bd (dI hA _) fun q _=>.br (fun _=>pU 19 _ _ (by decide) (by decide) rfl hA rfl rfl rfl rfl rfl rfl) fun _=>.br (fun e=>D1 _ _ rfl e hl hA rfl rfl rfl rfl rfl) fun _=>.br (fun _=>pU 22 _ _ (by decide) (by decide) rfl hA rfl rfl rfl rfl rfl rfl) fun _=>pU 23 _ _ (by decide) (by decide) rfl hA rfl rfl rfl rfl rfl rfl
 ·have e1:∀x:Int,(cat (Rn.list r) [x]).length≤n+1:=fun x=>by show (Rn.list r++[x]).length≤_;rw [zY];show _+1≤_;omega
  refine .bd (cU hA _) fun q _=>.br (fun _=>.opt (fun e0=>?_) fun jf e0=>?_) fun _=>?_
  rotate_left 2
  ·exact .br (fun _=>qZ 19 _ _ (by decide) (by decide) rfl hl hA rfl rfl rfl rfl rfl) fun _=>.br (fun e=>D1 _ _ rfl e hl hA rfl rfl rfl rfl rfl) fun _=>.br (fun _=>qZ 22 _ _ (by decide) (by decide) rfl hl hA rfl rfl rfl rfl rfl) fun _=>qZ 23 _ _ (by decide) (by decide) rfl hl hA rfl rfl rfl rfl rfl
  all_goals
   rw [e0] at hf
   refine .bd (sJ hf _) fun q _=>.br (fun _=>.gd (by show bt (len (Rn.list r)) _;rw [db,aL];omega) (.gd (by show bt (aN (len (Rn.list r)) _) _;rw [db,aL];show _+1≤_;omega) ?_)) fun _=>?_
   ·exact .br (fun _=>qZ 19 _ _ (by decide) (by decide) rfl (e1 _) hA rfl rfl rfl rfl rfl) fun _=>.br (fun e=>D1 _ _ rfl e (e1 _) hA rfl rfl rfl rfl rfl) fun _=>.br (fun _=>qZ 22 _ _ (by decide) (by decide) rfl (e1 _) hA rfl rfl rfl rfl rfl) fun _=>qZ 23 _ _ (by decide) (by decide) rfl (e1 _) hA rfl rfl rfl rfl rfl
   ·exact .br (fun _=>qZ 19 _ _ (by decide) (by decide) rfl hl hA rfl rfl rfl rfl rfl) fun _=>.br (fun e=>D1 _ _ rfl e hl hA rfl rfl rfl rfl rfl) fun _=>.br (fun _=>qZ 22 _ _ (by decide) (by decide) rfl hl hA rfl rfl rfl rfl rfl) fun _=>qZ 23 _ _ (by decide) (by decide) rfl hl hA rfl rfl rfl rfl rfl
 ·have hp:Rn.pc r=20:=cQ.1 hp
  have jN:=h6 (.inl hp)
  obtain ⟨hi,hi2⟩:=Jn jN (by omega)
  refine .gd (by show bn (aJ .i64 (zN (len (Rn.list r))) 1);rw [hi,bH];omega) (.gd (by show bo (nN (aJ .i64 (zN (len (Rn.list r))) 1)) (len (Rn.list r));rw [hi,bQ,aL];show Int.toNat _<_;omega) (.bd (cU hA _) fun q hq=>?_))
  obtain ⟨_,_,q1,q2⟩:=hq
  refine .gd (by rw [bH];exact q1) (.gd (by rw [db,dS];omega) (.gd (by rw [bH];exact q1) (.gd (by rw [db,dS];omega) ?_)))
  generalize hS:q.1.1.2.1=S at q1 q2 ⊢
  refine .loop (fun m' s=>s.2.2.2.2.1=c0∧s.2.1.1.length=S.toNat∧s.2.1.2.1.length=S.toNat∧∃k:Nat,s.1.1=(k:Int)∧k+m'=S.toNat) (fun m' s gg hI ih=>?_) (N:=S.toNat) (by unfold lu;omega) ⟨rfl,by show (List.replicate _ _).length=_;rw [List.length_replicate];rfl,by show (List.replicate _ _).length=_;rw [List.length_replicate];rfl,0,rfl,by omega⟩
  obtain ⟨i1,i2,i3,k,i4,i5⟩:=hI
  unfold g.nf
  have eS:zN (len (rep (α:=Int) (nN q.1.1.2.1) 0))=S:=by
   rw [hS,fQ,aL];show ((List.replicate _ _).length:Int)=_;rw [List.length_replicate];show ((S.toNat:Nat):Int)=S;omega
  rw [eS]
  have GZ:AR s.2.2.2.2.1 d0 a j m:=by rw [i1];exact hA
  refine .br (fun hb=>?_) fun hb=>?_
  ·have hb:=d_.1 hb
   rw [i4] at hb ⊢
   have ek:nN (k:Int)=k:=rfl
   refine .bd (c_ GZ _ _) fun w _=>.gd (by rw [bH];omega) (.gd (by rw [bQ,aL,ek];omega) (.gd (by rw [bH];omega) (.gd (by rw [bQ,aL,ek];unfold aY;rw [zM];omega) (.bd (dI GZ _) fun w2 _=>.gd (by rw [bH];omega) (.gd (by rw [bQ,aL,ek];omega) (ih (m' - 1) _ (by omega) ⟨i1,?_,?_,k+1,?_,by omega⟩))))))
   ·show (aY _ _ _).length=_;unfold aY;rw [zM];exact i2
   ·show (aY _ _ _).length=_;unfold aY;rw [zM];exact i3
   ·show ae .i64 (k:Int) 1=_;rw [a_ (by omega)];rfl
  ·refine .opt (fun e0=>?_) fun jf e0=>?_
   all_goals
    rw [e0] at hf
    refine .bd (sJ hf _) fun w hw=>.bd (vW _ _ _ hw (by omega)) fun v hv=>?_
    obtain ⟨v1,v2⟩:=hv
    refine .loop (fun m' t=>t.2.2.2.2.1=c0∧AR c0 t.2.2.2.2.2.1 a j m∧∃k:Nat,t.1.1=(k:Int)∧k+m'=S.toNat) (fun m' t gg hI ih=>?_) (N:=S.toNat) (by unfold lu;omega) ⟨i1,hA,0,rfl,by omega⟩
    obtain ⟨t1,t2,k,t4,t5⟩:=hI
    unfold g.kG
    have e2:zN (len s.2.1.1)=(S.toNat:Nat):=by rw [fQ,aL,i2]
    rw [e2]
    have AP:AR t.2.2.2.2.1 t.2.2.2.2.2.1 a j m:=by rw [t1];exact t2
    refine .br (fun hb=>?_) fun hb=>?_
    ·have hb:=d_.1 hb
     rw [t4] at hb ⊢
     have ek:nN (k:Int)=k:=rfl
     refine .gd (by rw [bH];omega) (.gd (by rw [bQ,aL,ek];omega) (.gd (by rw [bH];omega) (.gd (by rw [bQ,aL,ek];omega) (.bd (fl AP _ _) fun w2 hw2=>ih (m' - 1) _ (by omega) ⟨t1,?_,k+1,?_,by omega⟩))))
     ·rw [t1] at hw2;exact hw2
     ·show ae .i64 (k:Int) 1=_;rw [a_ (by omega)];rfl
    ·have hsl:∀x:List Int,x.length=(Rn.said r).length+v.1.2.2.1.length→x.length≤n+1:=fun x hx=>by omega
     refine .oi (fun s=>(sT s.2.2.2.1.1).1=r.1∧Rn.ch (sT s.2.2.2.1.1)=Rn.ch r∧Rn.list (sT s.2.2.2.1.1)=Rn.list r∧(Rn.said (sT s.2.2.2.1.1)).length≤n+1∧Rn.done (sT s.2.2.2.1.1)=Rn.done r∧Rn.dZ (sT s.2.2.2.1.1)=Rn.dZ r∧Rn.pc (sT s.2.2.2.1.1)=Rn.pc r) (fun s' AM=>?_) fun k hk=>.bd (Br (by show (Rn.said r).length≤_;omega) (by omega)) fun w hw=>.br (fun _=>hk _ ⟨rfl,rfl,rfl,hsl _ hw,rfl,rfl,rfl⟩) fun _=>hk _ ⟨rfl,rfl,rfl,hsl _ hw,rfl,rfl,rfl⟩
     obtain ⟨u1,u2,u3,u4,u5,u6,u7⟩:=AM
     have RE:Rn.list (sT s'.2.2.2.1.1)≠[]:=by rw [u3];exact jN
     have Vl:(Rn.list (sT s'.2.2.2.1.1)).length≤n+1:=by rw [u3];exact hl
     exact .br (fun _=>fin 21 _ _ _ (by decide) rfl t1 t2 u1 u2 u5 u6 Vl u4 (fun _=>RE)) fun _=>fin 20 _ _ _ (by decide) (u7.trans hp) t1 t2 u1 u2 u5 u6 Vl u4 (fun _=>RE)
 ·have hp:Rn.pc r=21:=cQ.1 hp
  have jN:=h6 (.inr hp)
  obtain ⟨hi,hi2⟩:=Jn jN (by omega)
  have hz:nN (aJ .i64 (zN (len (Rn.list r))) 1)=(Rn.list r).length-1:=by rw [hi];rfl
  have ht:(tk (aC (nN (aJ .i64 (zN (len (Rn.list r))) 1)) 0) (dr 0 (Rn.list r))).length≤n+1:=by
   show (List.take _ (List.drop 0 _)).length≤_
   rw [List.length_take,List.length_drop];omega
  have gl:bt (len (tk (aC (nN (aJ .i64 (zN (len (Rn.list r))) 1)) 0) (dr 0 (Rn.list r)))) 16777216:=by rw [db,aL];omega
  refine .gd (by show bn (aJ .i64 (zN (len (Rn.list r))) 1);rw [hi,bH];omega) (.gd (by show bo (nN (aJ .i64 (zN (len (Rn.list r))) 1)) (len (Rn.list r));rw [hz,bQ,aL];omega) (.bd (dB hA _) fun q hq=>.gd (by show bn (aJ .i64 (zN (len (Rn.list r))) 1);rw [hi,bH];omega) (.gd (by rw [db];exact Nat.zero_le _) (.gd (by show bt (nN (aJ .i64 (zN (len (Rn.list r))) 1)) (len (Rn.list r));rw [hz,db,aL];omega) (.gd gl ?_)))))
  exact .br (fun e=>D1 _ _ rfl e ht hq rfl rfl rfl rfl rfl) fun _=>.br (fun _=>qZ 22 _ _ (by decide) (by decide) rfl ht hq rfl rfl rfl rfl rfl) fun _=>qZ 23 _ _ (by decide) (by decide) rfl ht hq rfl rfl rfl rfl rfl
 ·exact .bd (ck _) fun q _=>.jn (.bd (e_ _) fun q _=>.bd (cV _) fun q _=>.bd (bF _ _ _) fun q _=>.bd (fl hA _ _) fun q hq=>tell _ _ _ hq)
 ·exact .bd (bF _ _ _) fun q _=>.bd (fl hA _ _) fun q hq=>.br (fun _=>pU 24 _ _ (by decide) (by decide) rfl hq rfl rfl rfl rfl rfl rfl) fun _=>pU 25 _ _ (by decide) (by decide) rfl hq rfl rfl rfl rfl rfl rfl
 ·exact .bd (fl hA _ _) fun q hq=>.br (fun _=>pU 24 _ _ (by decide) (by decide) rfl hq rfl rfl rfl rfl rfl rfl) fun _=>pU 25 _ _ (by decide) (by decide) rfl hq rfl rfl rfl rfl rfl rfl
 ·exact .bd (bF _ _ _) fun q _=>.bd (fl hA _ _) fun q hq=>pU 26 _ _ (by decide) (by decide) rfl hq rfl rfl rfl rfl rfl rfl
 ·exact .bd (ck _) fun q _=>.jn (.fI (fV _) (.bd (cV _) fun q _=>.bd (bF _ _ _) fun q _=>.bd (fl hA _ _) fun q hq=>tell _ _ _ hq))
 ·have n15:¬Rn.pc r=_:=cu.1 n15;have n16:¬Rn.pc r=_:=cu.1 n16;have n17:¬Rn.pc r=_:=cu.1 n17;have n18:¬Rn.pc r=_:=cu.1 n18;have n19:¬Rn.pc r=_:=cu.1 n19;have n20:¬Rn.pc r=_:=cu.1 n20;have n21:¬Rn.pc r=_:=cu.1 n21;have n22:¬Rn.pc r=_:=cu.1 n22;have n23:¬Rn.pc r=_:=cu.1 n23;have n24:¬Rn.pc r=_:=cu.1 n24;have n25:¬Rn.pc r=_:=cu.1 n25;have n26:¬Rn.pc r=_:=cu.1 n26
  omega
end Go.Proofs.YtfffmmahegdfiaaGreat
namespace Go.oT
open Go.Bm
def jq (x:Xt):Prop:=0≤x.1∧0≤x.2∧x.1+x.2≤131072
def l3:List Xt→Int→Option Nat
 | [],_=>none
 | x::l,n=>if n≤x.2 then some 0 else (l3 l n).map (· + 1)
def behind:List Xt→Int→Nat
 | [],_=>0
 | x::l,a=>if a<x.1+x.2 then 0 else behind l a+1
def mh (acc:List Xt) (x:Xt):List Xt:=match acc.getLast? with
 | some y=>if y.1+y.2=x.1 then acc.dropLast++[(y.1,y.2+x.2)] else acc++[x]
 | none=>[x]
def jy (acc l:List Xt):List Xt:=l.foldl mh acc
def DP (fr en:Int) (l:List Xt) (a n:Int):Option (List Xt):=
 if n<1∨n%8≠0∨a%8≠0∨¬(fr≤a∧a≤en-1)∨en-a<n then none
 else if behind l a<l.length∧(l.getD (behind l a) (0,0)).1<a+n then none
 else some (jy [] (l.take (behind l a)++[(a,n)]++l.drop (behind l a)))
theorem rn:∀{l:List Xt} {n:Int} {i:Nat},l3 l n=some i→i<l.length∧n≤(l.getD i (0,0)).2
 | [],_,_,h=>by cases h
 | x::l,n,i,h=>by
  unfold l3 at h
  split at h
  ·cases h;exact ⟨by simp,by simpa⟩
  ·cases hh:l3 l n with
   | none=>rw [hh] at h;cases h
   | some j=>
    rw [hh] at h
    have h:j+1=i:=by simpa using h
    have:=rn hh
    subst h
    exact ⟨by simp;omega,by simpa using this.2⟩
theorem xR (l:List Xt) (n:Int) (k:Nat) (h:k<l.length):l3 (l.drop k) n=if n≤l[k].2 then some 0 else (l3 (l.drop (k+1)) n).map (· + 1):=by
 rw [List.drop_eq_getElem_cons h];rfl
theorem wy (l:List Xt) (a:Int) (k:Nat) (h:k<l.length):behind (l.drop k) a=if a<l[k].1+l[k].2 then 0 else behind (l.drop (k+1)) a+1:=by
 rw [List.drop_eq_getElem_cons h];rfl
theorem lj:∀(l:List Xt) (a:Int),behind l a≤l.length
 | [],_=>Nat.le_refl _
 | x::l,a=>by
  unfold behind
  split
  ·omega
  ·have:=lj l a;simp;omega
theorem Df {acc:List Xt} {x:Xt} (h:∀y∈acc,jq y) (hx:jq x):∀y∈mh acc x,jq y:=by
 intro y hy
 unfold mh at hy
 split at hy
 ·rename_i z hz
  have hz':=h z (List.mem_of_getLast? hz)
  split at hy
  ·rcases zX.1 hy with hy | hy
   ·exact h y (List.dropLast_subset _ hy)
   ·rcases zF.1 hy with rfl
    unfold jq at *
    simp only
    omega
  ·rcases zX.1 hy with hy | hy
   ·exact h y hy
   ·rcases zF.1 hy with rfl;exact hx
 ·rcases zF.1 hy with rfl;exact hx
theorem AJ (acc:List Xt) (x:Xt):(mh acc x).length≤acc.length+1:=by
 unfold mh
 split
 ·split
  ·simp
  ·simp
 ·simp
theorem vD (l:List Xt) (k:Nat) (h:k<l.length):jy [] (l.take (k+1))=mh (jy [] (l.take k)) l[k]:=by
 unfold jy
 rw [List.take_add_one,zD h,List.foldl_append]
 rfl
theorem o9:∀(l acc:List Xt),(∀y∈acc,jq y)→(∀y∈l,jq y)→∀y∈jy acc l,jq y
 | [],acc,h,_=>h
 | x::l,acc,h,hl=>o9 l _ (Df h (hl x (zV ..))) (fun y hy=>hl y (zT _ hy))
theorem nA:∀(l acc:List Xt),(jy acc l).length≤acc.length+l.length
 | [],acc=>Nat.le_refl _
 | x::l,acc=>by
  have:=nA l (mh acc x)
  have:=AJ acc x
  show (jy (mh acc x) l).length≤_
  simp;omega
end Go.oT
namespace Go.Proofs.YtfffmmahegdfiaaGreat
open Go.Bm Go.oT
theorem HS {α:Type} {x y r:Option α} (k:y=r) (h:x=y:=by (first | with_reducible exact (gK _ _) | with_reducible exact cE | with_reducible exact cr | with_reducible exact dK | with_reducible exact (Jf (by assumption)) | with_reducible exact (Je (by assumption)) | with_reducible exact (aaD (by assumption)) | with_reducible exact (LL (by assumption)) | with_reducible exact dm | with_reducible exact cW | with_reducible exact gP | with_reducible exact gL | with_reducible exact gM | with_reducible exact gN | with_reducible exact gQ | with_reducible exact gO | with_reducible exact dM | with_reducible exact LM | (with_reducible apply l_;with_reducible (first | exact aP _ _ _ | assumption | exact cp (by assumption) | exact cp (cp (by assumption)) | exact cp (cp (cp (by assumption))) | exact cp (cp (cp (cp (by assumption)))) | exact cp (cp (cp (cp (cp (by assumption))))))) | (with_reducible refine dN ?qh;case qh=>first | omega | (simp (disch:=omega) only [a_,bV,dk,fY,gG,cR,eF,fQ,aL,jv,dS,aN,aC,zE,List.length_nil,zO,zR,zH,nr,nI,lA,xh,iY,zM]<;>omega)) | (with_reducible refine dv ?qh;case qh=>first | omega | (simp (disch:=omega) only [a_,bV,dk,fY,gG,cR,eF,fQ,aL,jv,dS,aN,aC,zE,List.length_nil,zO,zR,zH,nr,nI,lA,xh,iY,zM]<;>omega)) | (with_reducible refine dO ?qh;case qh=>first | omega | (simp (disch:=omega) only [a_,bV,dk,fY,gG,cR,eF,fQ,aL,jv,dS,aN,aC,zE,List.length_nil,zO,zR,zH,nr,nI,lA,xh,iY,zM]<;>omega)) | (with_reducible refine dP ?qh;case qh=>first | omega | (simp (disch:=omega) only [a_,bV,dk,fY,gG,cR,eF,fQ,aL,jv,dS,aN,aC,zE,List.length_nil,zO,zR,zH,nr,nI,lA,xh,iY,zM]<;>omega)) | (with_reducible refine bp ?qh;case qh=>first | omega | (simp (disch:=omega) only [a_,bV,dk,fY,gG,cR,eF,fQ,aL,jv,dS,aN,aC,zE,List.length_nil,zO,zR,zH,nr,nI,lA,xh,iY,zM]<;>omega)) | (with_reducible refine bq ?qh;case qh=>first | omega | (simp (disch:=omega) only [a_,bV,dk,fY,gG,cR,eF,fQ,aL,jv,dS,aN,aC,zE,List.length_nil,zO,zR,zH,nr,nI,lA,xh,iY,zM]<;>omega)))):x=r:=h.trans k
def m6 (r2:T3) (r4:T4) (gr:Nat) (fr en:Int) (l:List Xt):Prop:=∃fo:Option Nat,r2[gr]?=some (fr,(en,fo))∧((fo=none∧l=[])∨∃j,fo=some j∧aZ r4 j=some l)
theorem oW {α:Type} {l:List α} {i:Nat} {y x:α} (h:l[i]?=some y):(aY l i x)[i]?=some x:=by
 unfold aY
 rw [List.getElem?_set,if_pos rfl,if_pos (zB.1 h).1]
theorem nJ (d1:T4) (n:Int) (l:List Xt) (j:Nat) (v2) (hj:aZ d1 j=some l) (hl:l.length≤10000) :
  loop (g.b_ n d1 l j v2) ((0,()),((),((),((),()))))=v2 (((match l3 l n with | some i=>(i:Int) | none=>-1),()),((),((),((),())))):=by
 refine (lH (fun k=>((((k:Nat):Int),()),((),((),((),()))))) (fun k=>v2 (((match l3 (l.drop k) n with | some i=>((k+i:Nat):Int) | none=>-1),()),((),((),((),()))))) l.length (by unfold lu;omega) (fun K=>?_) (fun k hk=>?_)).trans ?_
 ·simp (disch:=omega) only [g.b_,↓gP,↓gL,↓gM,↓gN,↓gQ,↓gO,zE,dN,dv,dO,dP,bp,bq,dM,dm,cW,cE,cr,dK,↓gK,a_,bV,dk,fY,gG,cR,eF,fQ,aL,jv,dS,aN,aC]
  rw [List.drop_of_length_le (by omega)]
  rfl
 ·rw [xR l n k hk]
  have e:nth (0,0) l k=l[k]:=fk hk
  by_cases he:n≤l[k].2
  ·refine .inl (fun K=>?_)
   simp (disch:=omega) only [g.b_,↓gP,↓gL,↓gM,↓gN,↓gQ,↓gO,zE,dN,dv,dO,dP,bp,bq,dM,dm,cW,cE,cr,dK,↓gK,a_,bV,dk,fY,gG,cR,eF,fQ,aL,jv,dS,aN,aC,hj,e]
   rw [if_pos he];rfl
  ·refine .inr ⟨?_,fun K=>?_⟩
   ·rw [if_neg he]
    cases l3 (l.drop (k+1)) n with
    | none=>rfl
    | some i=>simp only [Option.map_some];congr 3;omega
   ·simp (disch:=omega) only [g.b_,↓gP,↓gL,↓gM,↓gN,↓gQ,↓gO,zE,dN,dv,dO,dP,bp,bq,dM,dm,cW,cE,cr,dK,↓gK,a_,bV,dk,fY,gG,cR,eF,fQ,aL,jv,dS,aN,aC,hj,e]
    rfl
 ·simp
theorem xZ {r2:T3} {r4:T4} {gr:Nat} {fr en:Int} {l:List Xt} (h:m6 r2 r4 gr fr en l) {n:Int} (hn:1≤n∧n≤65536∧n%8=0) (hl:l.length≤10000) (hb:l3 l n=none) :
  g.bT gr n r2 r4=some ((0,(false,())),(r2,(r4,()))):=by
 obtain ⟨fo,h2,h4⟩:=h
 have e2:∀d,nth d r2 gr=(fr,(en,fo)):=fun d=>bM h2
 have hr:bJ n 8=0:=by rw [cR (by omega)];exact hn.2.2
 unfold g.bT
 rcases h4 with ⟨rfl,rfl⟩ | ⟨j,rfl,hj⟩
 ·rw [e2,hr]
  repeat refine HS ?_
  rw [Jm]
  unfold g.eG
  repeat refine HS ?_
  rfl
 ·rw [e2,hr]
  repeat refine HS ?_
  refine Eq.trans (nJ r4 n l j _ hj hl) ?_
  rw [hb]
  repeat refine HS ?_
  rfl
theorem xY {r2:T3} {r4:T4} {gr:Nat} {fr en:Int} {l:List Xt} (h:m6 r2 r4 gr fr en l) {n:Int} (hn:1≤n∧n≤65536∧n%8=0) (hx:∀x∈l,jq x) (hl:l.length≤10000) {i:Nat} (hb:l3 l n=some i) :
  ∃pR pQ,g.bT gr n r2 r4=some (((l.getD i (0,0)).1,(true,())),(pR,(pQ,())))∧m6 pR pQ gr fr en (if (l.getD i (0,0)).2=n then l.eraseIdx i else l.set i ((l.getD i (0,0)).1+n,(l.getD i (0,0)).2-n)):=by
 obtain ⟨fo,h2,h4⟩:=h
 have e2:∀d,nth d r2 gr=(fr,(en,fo)):=fun d=>bM h2
 have hr:bJ n 8=0:=by rw [cR (by omega)];exact hn.2.2
 obtain ⟨hi,afK⟩:=rn hb
 have Rs:jq (l.getD i (0,0)):=by rw [zA,zD hi];exact hx _ (List.getElem_mem hi)
 generalize hg:l.getD i (0,0)=x at *
 have e0:nth (0,0) l i=x:=hg
 obtain ⟨k1,k2,k3⟩:=Rs
 rcases h4 with ⟨rfl,rfl⟩ | ⟨j,rfl,hj⟩
 ·cases hi
 ·unfold g.bT
  rw [e2,hr]
  have nni:nN (i:Int)=i:=rfl
  have eU:ao (0,0) (ao (0,0) l i fun Co=>(ae IntKind.i64 (nth (0,0) l i).1 n,Co.2)) i (fun FL=>(FL.1,aJ IntKind.i64 (nth (0,0) l i).2 n))=l.set i (x.1+n,x.2-n):=by
   unfold ao
   rw [vt hi,e0,a_ (by omega),bV (by omega)]
   simp only [aY,List.set_set]
  have e1:nth (0,0) (l.set i (x.1+n,x.2-n)) i=(x.1+n,x.2-n):=vt hi
  have sl:(l.set i (x.1+n,x.2-n)).length=l.length:=zM
  by_cases hz:x.2=n
  ·refine ⟨?r2,?r4,?eq,?rel⟩
   case eq=>
    repeat refine HS ?_
    refine Eq.trans (nJ r4 n l j _ hj hl) ?_
    rw [hb]
    simp only [nni,e0]
    repeat refine HS ?_
    rw [eU]
    rw [e1,bp (show (x.1+n,x.2-n).2=0 by simp only;omega)]
    repeat refine HS ?_
    rw [e0]
   case rel=>
    refine ⟨some _,(oW h2).trans (by rw [e2]),.inr ⟨_,rfl,?_⟩⟩
    have ti:((i:Int)+1).toNat=i+1:=by omega
    simp (disch:=omega) only [a_,bV,dk,fY,gG,cR,eF,fQ,aL,jv,dS,aN,aC,zE,List.length_nil,zO,zR,zH,nr,nI,lA,xh,iY,zM,sl,ti,Nat.sub_zero,Nat.min_self,Nat.zero_add]
    rw [yg,if_pos (by simp [aY]),if_pos hz]
    rw [Ec (by rw [sl];exact hi) (by rw [sl]) rfl rfl,List.eraseIdx_set_eq]
  ·refine ⟨?s2,?s4,?eq2,?rel2⟩
   case eq2=>
    repeat refine HS ?_
    refine Eq.trans (nJ r4 n l j _ hj hl) ?_
    rw [hb]
    simp only [nni,e0]
    repeat refine HS ?_
    rw [eU]
    rw [e1,bq (show ¬(x.1+n,x.2-n).2=0 by simp only;omega)]
    repeat refine HS ?_
    rw [e0]
   case rel2=>
    refine ⟨some j,h2,.inr ⟨j,rfl,?_⟩⟩
    rw [if_neg hz]
    exact cp (cp hj)
open Go.Bm Go.oT
def eM (a0:Nat) (all:List Xt) (k:(((Int×Unit)×(Unit×(Unit×(Unit×(T3×(T4×Unit))))))→(Option ((Int×Unit)×(T3×(T4×Unit)))))) (s:((Int×Unit)×(Unit×(Unit×(Unit×(T3×(T4×Unit))))))):(Option ((Int×Unit)×(T3×(T4×Unit)))):=(br (bb s.1.1 (zN (len all))) (gd (bn s.1.1) (gd (bo (nN s.1.1) (len all)) (opt (nth (0,(0,none)) s.2.2.2.2.1 a0).2.2 (jn (fun (k0:((Bool×Unit)×(Unit×(Unit×(Unit×Unit))))→_)=>(k0 ((false,()),((),((),((),())))))) (fun (s1:((Bool×Unit)×(Unit×(Unit×(Unit×Unit)))))=>(br s1.1.1 (opt (nth (0,(0,none)) s.2.2.2.2.1 a0).2.2 none (fun p2=>(bd (aZ s.2.2.2.2.2.1 p2) (fun p3=>(gd (bn (-1)) (gd (bo 0 (len p3)) (bd (aZ s.2.2.2.2.2.1 p2) (fun p4=>(bd (aZ s.2.2.2.2.2.1 p2) (fun p5=>(gd (bn (-1)) (gd (bo 0 (len p5)) (bd (aZ s.2.2.2.2.2.1 p2) (fun p6=>(k (((ae IntKind.i64 s.1.1 1),()),((),((),((),(s.2.2.2.2.1,((aY s.2.2.2.2.2.1 p2 (some (ao (0,0) p6 0 (fun r7=>(r7.1,(ae IntKind.i64 (nth (0,0) p4 0).2 (nth (0,0) all (nN s.1.1)).2)))))),()))))))))))))))))))))) (opt (nth (0,(0,none)) s.2.2.2.2.1 a0).2.2 (gd (bt (len [((nth (0,0) all (nN s.1.1)).1,(nth (0,0) all (nN s.1.1)).2)]) 16777216) (k (((ae IntKind.i64 s.1.1 1),()),((),((),((),((ao (0,(0,none)) s.2.2.2.2.1 a0 (fun r8=>(r8.1,(r8.2.1,(some (len s.2.2.2.2.2.1)))))),((cat s.2.2.2.2.2.1 [(some [((nth (0,0) all (nN s.1.1)).1,(nth (0,0) all (nN s.1.1)).2)])]),())))))))) (fun p9=>(bd (aZ s.2.2.2.2.2.1 p9) (fun fm=>(gd (bt (aN (len fm) (len [((nth (0,0) all (nN s.1.1)).1,(nth (0,0) all (nN s.1.1)).2)])) 16777216) (gd (bo p9 (len s.2.2.2.2.2.1)) (k (((ae IntKind.i64 s.1.1 1),()),((),((),((),((ao (0,(0,none)) s.2.2.2.2.1 a0 (fun m9=>(m9.1,(m9.2.1,(some (len (aY s.2.2.2.2.2.1 p9 none))))))),((cat (aY s.2.2.2.2.2.1 p9 none) [(some (cat fm [((nth (0,0) all (nN s.1.1)).1,(nth (0,0) all (nN s.1.1)).2)]))]),())))))))))))))))) (fun b9=>(bd (aZ s.2.2.2.2.2.1 b9) (fun cm=>(jn (fun (tN:((Bool×Unit)×(Unit×(Unit×(Unit×Unit))))→_)=>(br (dq 0 (aJ IntKind.i64 (zN (len cm)) 1)) (opt (nth (0,(0,none)) s.2.2.2.2.1 a0).2.2 none (fun dx=>(bd (aZ s.2.2.2.2.2.1 dx) (fun eO=>(gd (bn (aJ IntKind.i64 (zN (len cm)) 1)) (gd (bo (nN (aJ IntKind.i64 (zN (len cm)) 1)) (len eO)) (bd (aZ s.2.2.2.2.2.1 dx) (fun fX=>(opt (nth (0,(0,none)) s.2.2.2.2.1 a0).2.2 none (fun fH=>(bd (aZ s.2.2.2.2.2.1 fH) (fun kF=>(gd (bn (aJ IntKind.i64 (zN (len cm)) 1)) (gd (bo (nN (aJ IntKind.i64 (zN (len cm)) 1)) (len kF)) (bd (aZ s.2.2.2.2.2.1 fH) (fun dV=>(tN (((ah (ae IntKind.i64 (nth (0,0) fX (nN (aJ IntKind.i64 (zN (len cm)) 1))).1 (nth (0,0) dV (nN (aJ IntKind.i64 (zN (len cm)) 1))).2) (nth (0,0) all (nN s.1.1)).1),()),((),((),((),()))))))))))))))))))))) (tN ((false,()),((),((),((),()))))))) (fun (EV:((Bool×Unit)×(Unit×(Unit×(Unit×Unit)))))=>(br EV.1.1 (opt (nth (0,(0,none)) s.2.2.2.2.1 a0).2.2 none (fun iG=>(bd (aZ s.2.2.2.2.2.1 iG) (fun fy=>(gd (bn (aJ IntKind.i64 (zN (len cm)) 1)) (gd (bo (nN (aJ IntKind.i64 (zN (len cm)) 1)) (len fy)) (bd (aZ s.2.2.2.2.2.1 iG) (fun jm=>(bd (aZ s.2.2.2.2.2.1 iG) (fun fj=>(gd (bn (aJ IntKind.i64 (zN (len cm)) 1)) (gd (bo (nN (aJ IntKind.i64 (zN (len cm)) 1)) (len fj)) (bd (aZ s.2.2.2.2.2.1 iG) (fun eL=>(k (((ae IntKind.i64 s.1.1 1),()),((),((),((),(s.2.2.2.2.1,((aY s.2.2.2.2.2.1 iG (some (ao (0,0) eL (nN (aJ IntKind.i64 (zN (len cm)) 1)) (fun cj=>(cj.1,(ae IntKind.i64 (nth (0,0) jm (nN (aJ IntKind.i64 (zN (len cm)) 1))).2 (nth (0,0) all (nN s.1.1)).2)))))),()))))))))))))))))))))) (opt (nth (0,(0,none)) s.2.2.2.2.1 a0).2.2 (gd (bt (len [((nth (0,0) all (nN s.1.1)).1,(nth (0,0) all (nN s.1.1)).2)]) 16777216) (k (((ae IntKind.i64 s.1.1 1),()),((),((),((),((ao (0,(0,none)) s.2.2.2.2.1 a0 (fun m9=>(m9.1,(m9.2.1,(some (len s.2.2.2.2.2.1)))))),((cat s.2.2.2.2.2.1 [(some [((nth (0,0) all (nN s.1.1)).1,(nth (0,0) all (nN s.1.1)).2)])]),())))))))) (fun lD=>(bd (aZ s.2.2.2.2.2.1 lD) (fun jl=>(gd (bt (aN (len jl) (len [((nth (0,0) all (nN s.1.1)).1,(nth (0,0) all (nN s.1.1)).2)])) 16777216) (gd (bo lD (len s.2.2.2.2.2.1)) (k (((ae IntKind.i64 s.1.1 1),()),((),((),((),((ao (0,(0,none)) s.2.2.2.2.1 a0 (fun rC=>(rC.1,(rC.2.1,(some (len (aY s.2.2.2.2.2.1 lD none))))))),((cat (aY s.2.2.2.2.2.1 lD none) [(some (cat jl [((nth (0,0) all (nN s.1.1)).1,(nth (0,0) all (nN s.1.1)).2)]))]),())))))))))))))))))))))) (some ((0,()),(s.2.2.2.2.1,(s.2.2.2.2.2.1,())))))
theorem yS (a0:Nat) (a1 a2:Int) (v0 v1 v2 v3):g.iJ a0 a1 a2 v0 v1 v2 v3=eM a0 (cat (cat (tk (aC (nN v0.1.1) 0) (dr 0 v1)) [(a1,a2)]) (tk (aC (len v2) (nN v0.1.1)) (dr (nN v0.1.1) v3))):=rfl
theorem yR (a0:Nat) (a1 a2:Int) (v0 v1 v2):g.gC a0 a1 a2 v0 v1 v2=eM a0 (cat [(a1,a2)] (tk (aC (len v0) (nN v1.1.1)) (dr (nN v1.1.1) v2))):=rfl
theorem G3 (a0:Nat) (a1 a2:Int):g.gB a0 a1 a2=eM a0 (cat [(a1,a2)] []):=rfl
theorem xi (init:List Xt) (y x:Xt):mh (init++[y]) x=if y.1+y.2=x.1 then init++[(y.1,y.2+x.2)] else init++[y]++[x]:=by
 unfold mh;simp
theorem CT {α:Type} {d y:α} {l:List α} {i:Nat} (h:i=l.length):nth d (l++[y]) i=y:=by subst h;exact vu
theorem BQ {α:Type} {x y:α} {l:List α} {i:Nat} (h:i=l.length):aY (l++[y]) i x=l++[x]:=by subst h;unfold aY;simp
theorem rX {r2:T3} {r4:T4} {gr:Nat} {fr en:Int} {acc all:List Xt} {k:Nat} (h:m6 r2 r4 gr fr en acc) (hk:k<all.length) (hl:all.length≤10001) (ha:acc.length≤k) (hx:jq all[k]) (xo:∀y∈acc,jq y) :
  ∃pR pQ,m6 pR pQ gr fr en (mh acc all[k])∧∀K,eM gr all K (((k:Int),()),((),((),((),(r2,(r4,()))))))=K ((((k+1:Nat):Int),()),((),((),((),(pR,(pQ,())))))):=by
 obtain ⟨fo,h2,h4⟩:=h
 have e2:∀d,nth d r2 gr=(fr,(en,fo)):=fun d=>bM h2
 have e:∀d,nth d all (nN (k:Int))=all[k]:=fun d=>fk hk
 have ek:ae IntKind.i64 (k:Int) 1=((k+1:Nat):Int):=by rw [a_ (by omega)];omega
 rcases h4 with ⟨rfl,rfl⟩ | ⟨j,rfl,hj⟩
 ·refine ⟨?r2,?r4,?rel,fun K=>?eq⟩
  case eq=>
   unfold eM
   simp only [e2,e,ek]
   repeat refine HS ?_
   rfl
  case rel=>
   refine ⟨some r4.length,oW h2 |>.trans (by rw [e2];rfl),.inr ⟨_,rfl,?_⟩⟩
   exact gH
 ·have hjl:=oZ hj
  rcases List.eq_nil_or_concat acc with rfl | ⟨init,y,rfl⟩
  ·refine ⟨?s2,?s4,?rel2,fun K=>?eq2⟩
   case eq2=>
    unfold eM
    simp only [e2,e,ek]
    repeat refine HS ?_
    rfl
   case rel2=>
    refine ⟨some (len (aY r4 j none)),oW h2 |>.trans (by rw [e2]),.inr ⟨_,rfl,?_⟩⟩
    exact gH
  ·simp only [List.concat_eq_append] at *
   have hle:(init++[y]).length=init.length+1:=by simp
   have il:aJ IntKind.i64 (zN (len (init++[y]))) 1=(init.length:Int):=by
    rw [fQ,aL,hle,bV (by omega)];omega
   have hy:=xo y (by simp)
   have ey:∀d,nth d (init++[y]) (nN (init.length:Int))=y:=fun d=>CT (jv _)
   have ea:ae IntKind.i64 y.1 y.2=y.1+y.2:=a_ (by unfold jq at hy;omega)
   have eb:ae IntKind.i64 y.2 all[k].2=y.2+all[k].2:=a_ (by unfold jq at hy hx;omega)
   rw [xi]
   by_cases hq:y.1+y.2=all[k].1
   ·rw [if_pos hq]
    refine ⟨?u2,?u4,?rel3,fun K=>?eq3⟩
    case eq3=>
     unfold eM
     simp only [e2,e,ek]
     iterate 12 (try (refine HS ?_))
     simp only [il]
     repeat refine HS ?_
     simp only [ey,ea,eb]
     repeat refine HS ?_
     rfl
    case rel3=>
     refine ⟨some j,h2,.inr ⟨j,rfl,(cp hj).trans ?_⟩⟩
     unfold ao
     rw [ey,BQ (jv _)]
     show some (init++[(y.1,ae IntKind.i64 y.2 all[k].2)])=_
     rw [eb]
   ·rw [if_neg hq]
    refine ⟨?v2,?v4,?rel4,fun K=>?eq4⟩
    case eq4=>
     unfold eM
     simp only [e2,e,ek]
     iterate 12 (try (refine HS ?_))
     simp only [il]
     repeat refine HS ?_
     simp only [ey,ea,eb]
     repeat refine HS ?_
     rfl
    case rel4=>
     refine ⟨some (len (aY r4 j none)),oW h2 |>.trans (by rw [e2]),.inr ⟨_,rfl,?_⟩⟩
     exact gH
theorem vR {gr:Nat} {fr en:Int} {all:List Xt} (hl:all.length≤10001) (hx:∀y∈all,jq y):∀(m k:Nat) (r2:T3) (r4:T4),k+m=all.length→m6 r2 r4 gr fr en (jy [] (all.take k)) →
  ∃pR pQ,m6 pR pQ gr fr en (jy [] all)∧BI (eM gr all) (((k:Int),()),((),((),((),(r2,(r4,())))))) (some ((0,()),(pR,(pQ,())))) m
 | 0,k,r2,r4,hk,h=>by
  obtain rfl:k=all.length:=by omega
  rw [List.take_length] at h
  refine ⟨r2,r4,h,BI.stop 0 fun K=>?_⟩
  unfold eM
  repeat refine HS ?_
  rfl
 | m+1,k,r2,r4,hk,h=>by
  have BE:k<all.length:=by omega
  have ho:∀y∈jy [] (all.take k),jq y:=o9 _ _ (by simp) (fun y hy=>hx y (List.mem_of_mem_take hy))
  have hn:(jy [] (all.take k)).length≤k:=by have:=nA (all.take k) [];simp at this;omega
  obtain ⟨pR,pQ,h',e⟩:=rX h BE hl hn (hx _ (List.getElem_mem BE)) ho
  rw [←vD all k BE] at h'
  obtain ⟨Wu,Wt,h'',r⟩:=vR hl hx m (k+1) pR pQ (by omega) h'
  exact ⟨Wu,Wt,h'',BI.step r e⟩
theorem xx {gr:Nat} {fr en:Int} {all:List Xt} {r2:T3} {r4:T4} (h:m6 r2 r4 gr fr en []) (hl:all.length≤10001) (hx:∀y∈all,jq y) :
  ∃pR pQ,m6 pR pQ gr fr en (jy [] all)∧loop (eM gr all) ((0,()),((),((),((),(r2,(r4,()))))))=some ((0,()),(pR,(pQ,()))):=by
 obtain ⟨pR,pQ,h',r⟩:=vR hl hx all.length 0 r2 r4 (by omega) h
 exact ⟨pR,pQ,h',r.loop (by unfold lu;omega)⟩
theorem sH (a1:Int) (d1:T4) (l:List Xt) (j:Nat) (v2) (hj:aZ d1 j=some l) (hl:l.length≤10000) (hx:∀x∈l,jq x) :
  loop (g.dt a1 d1 l j v2) ((0,()),((),((),((),()))))=v2 (((if behind l a1<l.length then (behind l a1:Int) else -1),()),((),((),((),())))):=by
 refine (lH (fun k=>((((k:Nat):Int),()),((),((),((),()))))) (fun k=>v2 (((if k+behind (l.drop k) a1<l.length then ((k+behind (l.drop k) a1:Nat):Int) else -1),()),((),((),((),()))))) l.length (by unfold lu;omega) (fun K=>?_) (fun k hk=>?_)).trans ?_
 ·simp (disch:=omega) only [g.dt,↓gP,↓gL,↓gM,↓gN,↓gQ,↓gO,zE,dN,dv,dO,dP,bp,bq,dM,dm,cW,cE,cr,dK,↓gK,a_,bV,dk,fY,gG,cR,eF,fQ,aL,jv,dS,aN,aC]
  rw [if_neg (by omega)]
 ·rw [wy l a1 k hk]
  have e:nth (0,0) l k=l[k]:=fk hk
  have nP:=hx _ (List.getElem_mem hk)
  unfold jq at nP
  by_cases he:a1<l[k].1+l[k].2
  ·refine .inl (fun K=>?_)
   simp (disch:=omega) only [g.dt,↓gP,↓gL,↓gM,↓gN,↓gQ,↓gO,zE,dN,dv,dO,dP,bp,bq,dM,dm,cW,cE,cr,dK,↓gK,a_,bV,dk,fY,gG,cR,eF,fQ,aL,jv,dS,aN,aC,hj,e]
   rw [if_pos he,if_pos (by omega)];rfl
  ·refine .inr ⟨?_,fun K=>?_⟩
   ·rw [if_neg he]
    have e3:k+(behind (l.drop (k+1)) a1+1)=k+1+behind (l.drop (k+1)) a1:=by omega
    rw [e3]
   ·simp (disch:=omega) only [g.dt,↓gP,↓gL,↓gM,↓gN,↓gQ,↓gO,zE,dN,dv,dO,dP,bp,bq,dM,dm,cW,cE,cr,dK,↓gK,a_,bV,dk,fY,gG,cR,eF,fQ,aL,jv,dS,aN,aC,hj,e]
    rfl
 ·simp
theorem m6.nil {r2:T3} {r4:T4} {gr:Nat} {fr en:Int} {l:List Xt} (h:m6 r2 r4 gr fr en l):m6 (ao (0,(0,none)) r2 gr (fun r=>(r.1,(r.2.1,none)))) r4 gr fr en []:=by
 obtain ⟨fo,h2,_⟩:=h
 have e2:∀d,nth d r2 gr=(fr,(en,fo)):=fun d=>bM h2
 exact ⟨none,oW h2 |>.trans (by rw [e2]),.inl ⟨rfl,rfl⟩⟩
theorem L5 {r2:T3} {r4:T4} {gr:Nat} {fr en:Int} {l l':List Xt} {a n:Int} (h:m6 r2 r4 gr fr en l) (hf:0≤fr∧0≤en∧en≤131072) (ha:0≤a∧a≤1048576) (hn:0≤n∧n≤1048576) (hx:∀x∈l,jq x) (hl:l.length≤10000) (hg:DP fr en l a n=some l') :
  ∃pR pQ,g.cS gr a n r2 r4=some ((0,()),(pR,(pQ,())))∧m6 pR pQ gr fr en l':=by
 have rS:=h.nil
 obtain ⟨fo,h2,h4⟩:=h
 have e2:∀d,nth d r2 gr=(fr,(en,fo)):=fun d=>bM h2
 unfold DP at hg
 split at hg
 ·cases hg
 rename_i hc
 split at hg
 ·cases hg
 rename_i hd
 cases hg
 have Mq:1≤n:=by omega
 have Yf:n%8=0:=by omega
 have hc3:a%8=0:=by omega
 have RR:fr≤a∧a≤en-1:=by omega
 have hc5:n≤en-a:=by omega
 have hw:within a fr (aJ IntKind.i64 en 1)=true:=by
  rw [bV (by omega)];simp [within,RR.1,RR.2]
 have iN:∀y∈l.take (behind l a)++[(a,n)]++l.drop (behind l a),jq y:=by
  intro y hy
  simp only [zX,zF] at hy
  rcases hy with (hy | rfl) | hy
  ·exact hx _ (List.mem_of_mem_take hy)
  ·unfold jq;simp only;omega
  ·exact hx _ (List.mem_of_mem_drop hy)
 have hlen:(l.take (behind l a)++[(a,n)]++l.drop (behind l a)).length≤10001:=by
  have:=lj l a
  simp;omega
 obtain ⟨pR,pQ,hr,vM⟩:=xx rS hlen iN
 refine ⟨pR,pQ,?_,hr⟩
 unfold g.cS
 rcases h4 with ⟨rfl,rfl⟩ | ⟨j,rfl,hj⟩
 ·simp only [e2]
  repeat refine HS ?_
  try rw [hw]
  repeat refine HS ?_
  rw [Jm]
  unfold g.iI
  repeat refine HS ?_
  rw [G3]
  exact vM
 ·have hb:=lj l a
  simp only [e2]
  repeat refine HS ?_
  try rw [hw]
  repeat refine HS ?_
  refine Eq.trans (sH a r4 l j _ hj hl hx) ?_
  generalize hi:behind l a=i at *
  have a0:cat (cat (tk (aC (nN (i:Int)) 0) (dr 0 l)) [(a,n)]) (tk (aC (len l) (nN (i:Int))) (dr (nN (i:Int)) l))=l.take i++[(a,n)]++l.drop i:=by
   unfold cat tk dr aC len nN
   rw [zE,Nat.sub_zero,List.drop_zero,za (l:=l.drop i) (by simp)]
  have a2:i=0→cat [(a,n)] (tk (aC (len l) (nN (i:Int))) (dr (nN (i:Int)) l))=l.take i++[(a,n)]++l.drop i:=by
   rintro rfl
   unfold cat tk dr aC len nN
   simp
  have k0:(fun r:Int×(Int×Option Nat)=>(r.1,(r.2.1,(none:Option Nat))))=(fun r=>(r.1,(r.2.1,none))):=rfl
  have hs:ae IntKind.i64 a n=a+n:=a_ (by omega)
  by_cases eY:i<l.length
  ·rw [if_pos eY]
   have e:∀d,nth d l (nN (i:Int))=l[i]:=fun d=>fk eY
   have m0:¬l[i].1<a+n:=by
    intro hh
    refine hd ⟨eY,?_⟩
    rw [zA,zD eY]
    exact hh
   by_cases h0:i=0
   ·repeat refine HS ?_
    rw [e,hs]
    repeat refine HS ?_
    rw [yR]
    exact (congrArg (fun al=>loop (eM gr al) _) (a2 h0)).trans vM
   ·repeat refine HS ?_
    rw [e,hs]
    repeat refine HS ?_
    rw [yS]
    exact (congrArg (fun al=>loop (eM gr al) _) a0).trans vM
  ·rw [if_neg eY]
   obtain rfl:i=l.length:=by omega
   by_cases h0:l.length=0
   ·repeat refine HS ?_
    rw [yR]
    exact (congrArg (fun al=>loop (eM gr al) _) (a2 h0)).trans vM
   ·repeat refine HS ?_
    rw [yS]
    exact (congrArg (fun al=>loop (eM gr al) _) a0).trans vM
open Go.Bm Go.oT
def GI (n:Nat) (d3:T3) (d4:T4) (gr:Nat):Prop:=∃fr en l,m6 d3 d4 gr fr en l∧(0≤fr∧0≤en∧en≤131072)∧(∀x∈l,jq x)∧l.length≤n+1
theorem GI.up {n:Nat} {d3:T3} {d4:T4} {gr:Nat} (h:GI n d3 d4 gr):GI (n+1) d3 d4 gr:=by
 obtain ⟨fr,en,l,h1,h2,h3,h4⟩:=h
 exact ⟨fr,en,l,h1,h2,h3,by omega⟩
theorem yE {n:Int} (h:0≤n):bJ n 8=n%8:=cR h
theorem HH {n:Nat} {d3:T3} {d4:T4} {gr:Nat} (h:GI n d3 d4 gr) (hn:n≤9000) (a s:Int) (ha : -9223372036854775808≤a∧a≤9223372036854775807):Ok (g.cS gr a s d3 d4) (fun r=>GI (n+1) r.2.1 r.2.2.1 gr):=by
 have same:=h.up
 obtain ⟨fr,en,l,h1,h2,h3,h4⟩:=h
 cases hg:DP fr en l a s with
 | some l'=>
  have Mo:=hg
  unfold DP at hg
  split at hg
  ·cases hg
  rename_i hc
  split at hg
  ·cases hg
  cases hg
  obtain ⟨pR,pQ,he,hr⟩:=L5 h1 h2 (by omega) (by omega) h3 (by omega) Mo
  refine ⟨_,he,fr,en,_,hr,h2,o9 _ _ (fun y hy=>nomatch hy) ?_,?_⟩
  ·intro y hy
   simp only [zX,zF] at hy
   rcases hy with (hy | rfl) | hy
   ·exact h3 _ (List.mem_of_mem_take hy)
   ·unfold jq;simp only;omega
   ·exact h3 _ (List.mem_of_mem_drop hy)
  ·have:=nA (l.take (behind l a)++[(a,s)]++l.drop (behind l a)) []
   have:=lj l a
   simp only [zY,List.length_take,List.length_drop,zO,List.length_nil] at *
   omega
 | none=>
  unfold DP at hg
  split at hg
  ·rename_i hc
   obtain ⟨fo,k1,k2⟩:=h1
   have e2:∀d,nth d d3 gr=(fr,(en,fo)):=fun d=>bM k1
   unfold g.cS
   simp only [e2]
   refine .jn (.br (fun _=>.some same) fun b1=>.br (fun _=>.some same) fun b2=>.br (fun _=>.some same) fun b3=>.fI (aP _ _ _) (.br (fun _=>.some same) fun b4=>.br (fun _=>.some same) fun b5=>?_))
   exfalso
   have b1:=kr.1 b1
   have b2:=cQ.1 (g6.1 b2)
   have b3:=cQ.1 (g6.1 b3)
   have b4:=dJ.1 (g6.1 b4)
   have b5:=kr.1 b5
   rw [bV (by omega)] at b4 b5
   rw [yE (by omega)] at b2 b3
   omega
  ·rename_i hc
   split at hg
   ·rename_i hd
    have Mq:1≤s:=by omega
    have Yf:s%8=0:=by omega
    have hc3:a%8=0:=by omega
    have RR:fr≤a∧a≤en-1:=by omega
    have hc5:s≤en-a:=by omega
    have hw:within a fr (aJ IntKind.i64 en 1)=true:=by
     rw [bV (by omega)];simp [within,RR.1,RR.2]
    have KO:bJ s 8=0:=by rw [yE (by omega)];exact Yf
    have XJ:bJ a 8=0:=by rw [yE (by omega)];exact hc3
    obtain ⟨fo,k1,k2⟩:=h1
    have e2:∀d,nth d d3 gr=(fr,(en,fo)):=fun d=>bM k1
    refine ⟨((1,()),(d3,(d4,()))),?_,same⟩
    rcases k2 with ⟨rfl,rfl⟩ | ⟨j,rfl,hj⟩
    ·exact absurd hd.1 (by simp)
    ·unfold g.cS
     have hs:ae IntKind.i64 a s=a+s:=a_ (by omega)
     simp only [e2,KO,XJ]
     repeat refine HS ?_
     try rw [hw]
     repeat refine HS ?_
     refine Eq.trans (sH a d4 l j _ hj (by omega) h3) ?_
     obtain ⟨d1,d2⟩:=hd
     have hb:=lj l a
     generalize hi:behind l a=i at *
     rw [if_pos d1]
     have e:∀d,nth d l (nN (i:Int))=l[i]:=fun d=>fk d1
     rw [zA,zD d1] at d2
     have d2:l[i].1<a+s:=d2
     repeat refine HS ?_
     rw [e,hs]
     repeat refine HS ?_
     rfl
   ·cases hg
theorem ET {n:Nat} {d3:T3} {d4:T4} {gr:Nat} (h:GI n d3 d4 gr) (hn:n≤9000) {s:Int} (hs:1≤s∧s≤65536∧s%8=0):Ok (g.bT gr s d3 d4) (fun r=>GI (n+1) r.2.1 r.2.2.1 gr):=by
 have same:=h.up
 obtain ⟨fr,en,l,h1,h2,h3,h4⟩:=h
 cases hb:l3 l s with
 | none=>exact ⟨_,xZ h1 hs (by omega) hb,same⟩
 | some i=>
  obtain ⟨pR,pQ,he,hr⟩:=xY h1 hs h3 (by omega) hb
  refine ⟨_,he,fr,en,_,hr,h2,?_,?_⟩
  ·obtain ⟨k1,k2⟩:=rn hb
   intro x hx
   split at hx
   ·exact h3 _ (List.mem_of_mem_eraseIdx hx)
   ·rcases List.mem_or_eq_of_mem_set hx with hx | rfl
    ·exact h3 _ hx
    ·have:=h3 _ (List.getElem_mem k1)
     rw [zA,zD k1] at k2 ⊢
     unfold jq at this ⊢
     simp only [Option.getD_some] at *
     omega
  ·split
   ·have:=List.length_eraseIdx_le l i;omega
   ·rw [zM];omega
abbrev L1:=((U1×(Int×Unit))×(T2×(T3×(T4×Unit))))
def StF (n:Nat) (r:U1) (c0:T1) (a j m gr:Nat) (x:L1):Prop:=SP n r x.1.1∧AR c0 x.2.1 a j m∧GI (n+1) x.2.2.1 x.2.2.2.1 gr
theorem NI (x:Int) : -9223372036854775808≤cl .i64 x∧cl .i64 x≤9223372036854775807:=by
 unfold cl;rw [wrap_i64];omega
theorem xL {n:Nat} {c0:T1} {d0:T2} {d3:T3} {d4:T4} {a j m gr:Nat} (hA:AR c0 d0 a j m) (hG:GI n d3 d4 gr) (hn:n≤9000) (p:m5) (s:Int):Ok (g.hJ (some a,(p,s)) gr c0 d0 d3 d4) (fun r=>AR c0 r.2.1 a j m∧GI (n+1) r.2.2.1 r.2.2.2.1 gr):=by
 unfold g.hJ
 exact .gJ rfl (.bd (cC hA _ _) fun q _=>.br (fun _=>.some ⟨hA,hG.up⟩) fun _=>.br (fun _=>.bd (dG hA _ _ _) fun q _=>.bd (dG hA _ _ _) fun q _=>.bd (HH hG hn _ _ (NI _)) fun q hq=>.bd (dQ hA _ _ _) fun w hw=>.bd (bN hw _ _ _ _) fun w hw=>.bd (bN hw _ _ _ _) fun w hw=>.some ⟨hw,hq⟩) fun _=>.some ⟨hA,hG.up⟩)
theorem DT {n:Nat} {r:U1} (h:rq n r) (hn:n≤9000) (Vh:Rn.pc r=1) (hc:Rn.op r=2→1≤r.1.2.2.2.2.1∧r.1.2.2.2.2.1≤65536) {c0:T1} {d0:T2} {d3:T3} {d4:T4} {a j m gr:Nat} (hA:AR c0 d0 a j m) (hG:GI n d3 d4 gr) (p:m5) (hp:p.1≤100):Ok (g.iO p a gr r c0 d0 d3 d4) (StF n r c0 a j m gr):=by
 unfold g.iO
 obtain ⟨h1,h2,h3,h4,h5,h6,h7,h8⟩:=h
 have hl:(Rn.list r).length≤n+1:=by omega
 have hs:(Rn.said r).length≤n+1:=by omega
 have Mj:Rn.op r=2∨Rn.op r=3:=by
  unfold dw at h8;rw [Vh] at h8;omega
 have hd:∀{x y:Option L1} {P:L1→Prop},Ok y P→Ok (br (Rn.done r) x y) P:=fun {x y P} k=>by rw [h4];exact k
 have tell:∀(c k:Int) (d':T2) (Z2:T3) (Z1:T4),AR c0 d' a j m→GI (n+1) Z2 Z1 gr→Ok (bd (g.bh r c k) (fun p=>some ((p.1.1,(0,())),(d',(Z2,(Z1,())))))) (StF n r c0 a j m gr):=fun c k d' Z2 Z1 rW hG'=>
  .bd (jL n c k rfl rfl hl hs h7) fun q hh=>.some ⟨hh.1,rW,hG'⟩
 refine .jn (hd (.br (fun e=>?_) fun _=>.br (fun _=>.bd (xL hA hG hn _ _) fun q hq=>tell _ _ _ _ _ hq.1 hq.2) fun n3=>?_))
 ·have e:=cu.1 (iv.1 e)
  exact absurd Vh e
 ·have n3:¬Rn.op r=3:=cu.1 n3
  obtain ⟨c1,c2⟩:=hc (by omega)
  refine .loop (fun m' s=>AR c0 s.2.2.2.2.1 a j m∧s.2.2.2.2.2.1=d3∧s.2.2.2.2.2.2.1=d4∧∃k:Nat,s.1.1=(k:Int)∧k+m'=100) (fun m' s gg hI ih=>?_) (N:=100) (by unfold lu;omega) ⟨hA,rfl,rfl,0,rfl,rfl⟩
  obtain ⟨i1,i2,i3,k,i4,i5⟩:=hI
  unfold g.iW
  refine .br (fun hb=>?_) fun _=>tell _ _ _ _ _ i1 (by rw [i2,i3];exact hG.up)
  have hb:=d_.1 hb
  refine .bd (cC i1 _ _) fun q _=>.br (fun _=>ih (m' - 1) _ (by omega) ⟨i1,i2,i3,k+1,?_,by omega⟩) fun _=>?_
  ·show ae .i64 s.1.1 1=_;rw [i4,a_ (by omega)];rfl
  ·refine .fI (vr (by omega)) (.bd (ET (n:=n) (by rw [i2,i3];exact hG) hn ?_) fun q hq=>.br (fun _=>tell _ _ _ _ _ i1 hq) fun _=>.bd (dQ i1 _ _ _) fun w hw=>.bd (bN hw _ _ _ _) fun w hw=>.bd (bN hw _ _ _ _) fun w hw=>.bd (bN hw _ _ _ _) fun w hw=>.bd (bN hw _ _ _ _) fun w hw=>tell _ _ _ _ _ hw hq)
   show 1≤HM r.1.2.2.2.2.1∧HM r.1.2.2.2.2.1≤65536∧HM r.1.2.2.2.2.1%8=0
   unfold HM;omega
open Go.Bm Go.oT
theorem eH {α:Type} (l:List α):zN (len l)=(l.length:Int):=by rw [fQ,aL]
theorem vV (l:List Int) (hl:l.length≤10):Ok (g.aA l) (fun r=>r.1.1=0→∀i,i<l.length→l.getD i 0=0):=by
 unfold g.aA
 refine .loop (fun m s=>∃k:Nat,s.1.1=(k:Int)∧k+m=l.length∧∀i,i<k→l.getD i 0=0) (fun m s gg hI ih=>?_) (N:=l.length) (by unfold lu;omega) ⟨0,rfl,by omega,fun i hi=>by omega⟩
 obtain ⟨k,h1,h2,h3⟩:=hI
 unfold g.iB
 rw [eH,h1]
 have ek:nN (k:Int)=k:=rfl
 refine .br (fun hb=>?_) fun hb=>.some fun _ i hi=>h3 i (by have:=kr.1 hb;omega)
 have hb:=d_.1 hb
 refine .gd (by rw [bH];omega) (.gd (by rw [bQ,aL,ek];omega) (.br (fun e=>.some fun e2=>absurd e2 (cu.1 (iv.1 e))) fun e=>ih (m-1) _ (by omega) ⟨k+1,?_,by omega,fun i hi=>?_⟩))
 ·show ae .i64 (k:Int) 1=_;rw [a_ (by omega)];rfl
 ·by_cases h:i<k
  ·exact h3 i h
  ·have:i=k:=by omega
   subst this
   exact cQ.1 (g6.1 e)
theorem A0 (a b:Int):Ok (g.aA [a,b]) (fun r=>r.1.1=0→a=0∧b=0):=(vV _ (by show 2≤10;omega)).mono fun r h e=>⟨h e 0 (by show 0<2;omega),h e 1 (by show 1<2;omega)⟩
theorem AZ (a b c:Int):Ok (g.aA [a,b,c]) (fun r=>r.1.1=0→a=0∧b=0∧c=0):=(vV _ (by show 3≤10;omega)).mono fun r h e=>⟨h e 0 (by show 0<3;omega),h e 1 (by show 1<3;omega),h e 2 (by show 2<3;omega)⟩
theorem vv (l:List Int) (hl:l.length≤10):Ok (g.bR l) (fun r=>r.1.1=true→∀i,i<l.length→l.getD i 0<4):=by
 unfold g.bR
 refine .loop (fun m s=>∃k:Nat,s.1.1=(k:Int)∧k+m=l.length∧∀i,i<k→l.getD i 0<4) (fun m s gg hI ih=>?_) (N:=l.length) (by unfold lu;omega) ⟨0,rfl,by omega,fun i hi=>by omega⟩
 obtain ⟨k,h1,h2,h3⟩:=hI
 unfold g.iA
 rw [eH,h1]
 have ek:nN (k:Int)=k:=rfl
 refine .br (fun hb=>?_) fun hb=>.some fun _ i hi=>h3 i (by have:=kr.1 hb;omega)
 have hb:=d_.1 hb
 refine .gd (by rw [bH];omega) (.gd (by rw [bQ,aL,ek];omega) (.br (fun e=>.some fun e2=>?_) fun e=>ih (m-1) _ (by omega) ⟨k+1,?_,by omega,fun i hi=>?_⟩))
 ·have:dq 0 (k:Int)=false:=iv.1 e2
  have:=pI.1 this
  omega
 ·show ae .i64 (k:Int) 1=_;rw [a_ (by omega)];rfl
 ·by_cases h:i<k
  ·exact h3 i h
  ·have:i=k:=by omega
   subst this
   have:=pI.1 e
   show nth 0 l i<4
   rw [ek] at this
   omega
theorem AE (a:Int):Ok (g.bR [a]) (fun r=>r.1.1=true→a<4):=(vv _ (by show 1≤10;omega)).mono fun r h e=>h e 0 (by show 0<1;omega)
theorem AD (a b:Int):Ok (g.bR [a,b]) (fun r=>r.1.1=true→a<4∧b<4):=(vv _ (by show 2≤10;omega)).mono fun r h e=>⟨h e 0 (by show 0<2;omega),h e 1 (by show 1<2;omega)⟩
theorem rA {l:List (Int×Bool)} (hl:l.length≤100):g.bw l=some ((l,()),()):=by
 unfold g.bw
 rw [oC (show bt (aN 0 (len l)) 16777216 by rw [db,aL];show 0+_≤_;omega)]
 rfl
theorem EJ {l:List (Int×Bool)} (hl:l.length≤100):Ok (g.ik l) (fun r=>r.1.1.length≤l.length∧(r.1.2.2.1=0→0<l.length)):=by
 unfold g.ik
 rw [eH]
 refine .br (fun hb=>.some ⟨by show 0≤_;omega,fun e=>by cases e⟩) fun hb=>?_
 have hb:=kr.1 hb
 rw [bV (by omega)] at hb ⊢
 have en:nN ((l.length:Int)-1)=l.length-1:=by unfold nN;omega
 have ht:(tk (aC (nN ((l.length:Int)-1)) 0) (dr 0 l)).length≤l.length:=by show (List.take _ (List.drop 0 l)).length≤_;rw [List.length_take,List.drop_zero];omega
 exact .gd (by rw [bH];omega) (.gd (by rw [db];omega) (.gd (by rw [db,en,aL];omega) (.fI (rA (by omega)) (.gd (by rw [bH];omega) (.gd (by rw [bQ,en,aL];omega) (.some ⟨ht,fun _=>by omega⟩))))))
theorem uA {l:List (Int×Bool)} (hl:l.length≤6) (e:Int×Bool):Ok (g.bX l e) (fun r=>r.1.1.length≤6):=by
 unfold g.bX
 rw [eH]
 refine .br (fun hb=>.some (by show 0≤_;omega)) fun hb=>?_
 have hb:=pI.1 hb
 rw [a_ (by omega)]
 have en:nN ((l.length:Int)+1)=l.length+1:=by unfold nN;omega
 have er:(rep (α:=(Int×Bool)) (l.length+1) (0,false)).length=l.length+1:=List.length_replicate
 have ec:(cat l (dr l.length (rep (α:=(Int×Bool)) (l.length+1) (0,false)))).length=l.length+1:=by show (l++List.drop _ _).length=_;rw [zY,List.length_drop,er];omega
 rw [en]
 refine .gd (by rw [bH];omega) (.gd (by rw [db];omega) (.gd (by rw [bQ,aL,er];omega) (.gd (by rw [db,aL,aL,er];omega) (.gd (by rw [bH];omega) (.gd ?_ (.some ?_))))))
 ·rw [bQ];show l.length<(cat l (dr l.length (rep (α:=(Int×Bool)) (l.length+1) (0,false)))).length;omega
 ·show (List.set _ _ _).length≤6
  rw [zM]
  show (cat l (dr l.length (rep (α:=(Int×Bool)) (l.length+1) (0,false)))).length≤6
  omega
theorem HL (l:List (Int×Bool)) (hl:l.length≤100):Ok (g.cF l) (fun _=>True):=by
 unfold g.cF
 rw [eH]
 refine .br (fun _=>.some trivial) fun hb=>?_
 have hb:=cu.1 hb
 rw [bV (by omega)]
 have en:nN ((l.length:Int)-1)=l.length-1:=by unfold nN;omega
 exact .gd (by rw [bH];omega) (.gd (by rw [bQ,en,aL];omega) (.some trivial))
theorem EI {l:List (Int×Bool)} (hl:l.length≤100) (s:Int):Ok (g.bm l s) (fun _=>True):=⟨_,nh _ (by omega),trivial⟩
abbrev Ask:=m5×(List (Int×Bool)×((Int×(Int×(Int×(Int×(Int×(Int×Int))))))×(Int×Int)))
theorem Ok.brN {α:Type} {c:Bool} {x y:Option α} {P:α→Prop} {Q:Prop} (hq:c=true→Q) (h1:c=false→Ok x P) (h2:Q→Ok y P):Ok (br (af c) x y) P:=by
 cases c with
 | true=>exact h2 (hq rfl)
 | false=>exact h1 rfl
theorem Ok.brP {α:Type} {c:Bool} {x y:Option α} {P:α→Prop} {Q:Prop} (hq:c=true→Q) (h1:Q→Ok x P) (h2:c=false→Ok y P):Ok (br c x y) P:=by
 cases c with
 | true=>exact h1 (hq rfl)
 | false=>exact h2 rfl
set_option maxHeartbeats 4000000 in
theorem Aa (a:Ask) (hl:a.2.1.length≤6):Ok (g.bI a) (fun r=>r.1.1=0→(a.2.2.1.1=2→1≤a.2.2.1.2.2.2.2.1∧a.2.2.1.2.2.2.2.1≤8192)∧(a.2.2.1.1=1∨a.2.2.1.1=7∨a.2.2.1.1=8∨a.2.2.1.1=10→a.2.2.1.2.1<4)∧(a.2.2.1.1=5→0<a.2.1.length)):=by
 unfold g.bI
 repeat' (first | (with_reducible refine Ok.bd (A0 _ _) (fun _ _=>?_)) | (with_reducible refine Ok.bd (AZ _ _ _) (fun _ _=>?_)) | (with_reducible refine Ok.bd (AE _) (fun _ _=>?_)) | (with_reducible refine Ok.bd (AD _ _) (fun _ _=>?_)) | (with_reducible refine Ok.fI (aP _ _ _) ?_) | (with_reducible refine Ok.bd (uA (by assumption) _) (fun _ _=>?_)) | (with_reducible refine Ok.bd (EJ (by omega)) (fun _ _=>?_)) | (with_reducible refine Ok.bd (EI (by omega) _) (fun _ _=>?_)) | (with_reducible refine Ok.bd (cN (by omega) _ _) (fun _ _=>?_)) | (with_reducible refine Ok.bd (da _ _) (fun _ _=>?_)) | (with_reducible refine Ok.brN (by assumption) (fun _=>?_) (fun _=>?_)) | (with_reducible refine Ok.brP (by assumption) (fun _=>?_) (fun _=>?_)) | (with_reducible refine Ok.br (fun _=>?_) (fun _=>?_)) | (with_reducible refine Ok.oi (fun _=>True) (fun _ _=>?_) (fun _ _=>?_)) | (with_reducible exact (by assumption:∀s,True→Ok _ _) _ trivial) | (with_reducible refine Ok.some (fun _=>?_)))
 all_goals
  dsimp only at *
  simp only [d_,C5,cQ,cu,iv,g6,dJ] at *
  omega
theorem Qo (a:Ask) (hl:a.2.1.length≤6) (h5:a.2.2.1.1=5→0<a.2.1.length):Ok (g.cD a) (fun r=>dw a.2.2.1.1 r.1.1∧r.1.1≤15):=by
 unfold g.cD
 have p1:∀{o:Int},o=2∨o=3→dw o 1∧(1:Int)≤15:=fun h=>by unfold dw;omega
 refine .oi (fun s=>s.1.1=true→a.2.2.1.1=2∨a.2.2.1.1=3) (fun s hs=>.br (fun e=>.some (p1 (hs e))) fun _=>.br (fun e=>.some ?_) fun _=>.br (fun e=>?_) fun _=>.oi (fun s=>s.1.1=true→a.2.2.1.1=7∨a.2.2.1.1=8∨a.2.2.1.1=9) (fun s hs=>.br (fun e=>.some ?_) fun _=>.br (fun e=>.some ?_) fun _=>.br (fun e=>.br (fun _=>.some ?_) fun _=>.some ?_) fun _=>.some ?_) fun k hk=>.br (fun e=>hk _ fun _=>.inl (cQ.1 e)) fun _=>.br (fun e=>hk _ fun _=>.inr (.inl (cQ.1 e))) fun _=>hk _ fun e=>.inr (.inr (cQ.1 e))) fun k hk=>.br (fun e=>hk _ fun _=>.inl (cQ.1 e)) fun _=>hk _ fun e=>.inr (cQ.1 e)
 ·have:=cQ.1 e;dsimp only;unfold dw;omega
 ·have e:=cQ.1 e
  have:=h5 e
  rw [eH,bV (by omega)]
  have en:nN ((a.2.1.length:Int)-1)=a.2.1.length-1:=by unfold nN;omega
  refine .gd (by rw [bH];omega) (.gd (by rw [bQ,en,aL];omega) (.br (fun _=>.some ?_) fun _=>.some ?_))
  ·dsimp only;unfold dw;omega
  ·dsimp only;unfold dw;omega
 ·have:=hs e;dsimp only;unfold dw;omega
 ·have:=cQ.1 e;dsimp only;unfold dw;omega
 ·have:=cQ.1 e;dsimp only;unfold dw;omega
 ·have:=cQ.1 e;dsimp only;unfold dw;omega
 ·dsimp only;unfold dw;omega
open Go.Bm Go.oT
abbrev sb:Type:=Int×(Int×(Int×(Int×(Int×(Int×Int)))))
abbrev sO (o:Int):Prop:=o=1∨o=7∨o=8∨o=10
structure kM (n:Nat) (r:U1):Prop where
 run:rq n r
 make:Rn.op r=2→Rn.pc r=1→1≤r.1.2.2.2.2.1∧r.1.2.2.2.2.1≤8192
 eK:sO (Rn.op r)→Rn.pc r≠0∨Rn.code r=0→r.1.2.1<4
theorem Uy {p:m5} {rg:Nat} {l:List (Int×Bool)} {c:sb} {d8:T2} {w:List Int} (hw:aZ d8 rg=some w) (h4:w.length=4) (hl:l.length≤6) (hc:0≤c.2.2.1∧0≤c.2.2.2.1):Ok (g.gk p (some rg) l c d8) (fun x=>x.1.1.1=c∧∀n≤100000,kM n x.1.1):=by
 have tail:∀h v:Int,Ok (bd (g.cF l) (fun p0=>bd (g.bw l) (fun p1=>bd (g.bI (p,(l,(c,(h,v))))) (fun p2=>br (ah p2.1.1 0) (bd (g.cD (p,(l,(c,(h,v))))) (fun p3=>some (((c,(p3.1.1,(p0.1.1,(h,(v,(p1.1.1,(0,(0,(0,(0,([],(0,([],(0,(false,(false,(false,(p2.1.1,(0,[]))))))))))))))))))),()),()))) (some (((c,(0,(p0.1.1,(h,(v,(p1.1.1,(0,(0,(0,(0,([],(0,([],(0,(false,(false,(false,(p2.1.1,(0,[]))))))))))))))))))),()),())))))) (fun x=>x.1.1.1=c∧∀n≤100000,kM n x.1.1):=by
  intro h v
  refine .bd (HL l (by omega)) fun p0 _=>.fI (rA (by omega)) (.bd (Aa _ hl) fun p2 h2=>.br (fun e=>.bd (Qo _ hl fun e5=>(h2 (cQ.1 e)).2.2 e5) fun p3 h3=>.some ⟨rfl,fun n hn=>?_⟩) fun e=>.some ⟨rfl,fun n hn=>?_⟩)
  ·obtain ⟨k1,k2,k3⟩:=h2 (cQ.1 e)
   obtain ⟨k4,k5⟩:=h3
   exact ⟨⟨by show 0≤n;omega,by show 0≤n;omega,by show l.length≤100;omega,rfl,rfl,fun h=>by have h:p3.1.1=20∨p3.1.1=21:=h;omega,hn,k4⟩,fun h _=>k1 h,fun h _=>k2 h⟩
  ·exact ⟨⟨by show 0≤n;omega,by show 0≤n;omega,by show l.length≤100;omega,rfl,rfl,fun h=>by have h:(0:Int)=20∨(0:Int)=21:=h;omega,hn,.inl rfl⟩,fun h e=>by have e:(0:Int)=1:=e;omega,fun h e'=>by
    rcases e' with e' | e'
    ·exact absurd rfl e'
    ·exact absurd e' (cu.1 e)⟩
 unfold g.gk
 have hv:c.2.2.2.1<4→bo (nN c.2.2.2.1) (len w):=fun h=>by rw [bQ,dS,aL];omega
 have hh:c.2.2.1<4→bo (nN c.2.2.1) (len w):=fun h=>by rw [bQ,dS,aL];omega
 refine .br (fun _=>.br (fun _=>tail _ _) fun b=>.gJ rfl (.fI hw (.gd (by rw [bH];exact hc.2) (.gd (hv (by have:=pI.1 b;omega)) (.fI hw (tail _ _)))))) fun b=>.gJ rfl (.fI hw (.gd (by rw [bH];exact hc.1) (.gd (hh (by have:=pI.1 b;omega)) (.fI hw (.br (fun _=>tail _ _) fun b=>.gJ rfl (.fI hw (.gd (by rw [bH];exact hc.2) (.gd (hv (by have:=pI.1 b;omega)) (.fI hw (tail _ _))))))))))
structure SD (n:Nat) (r r':U1):Prop where
 sp:SP n r r'
 code:Rn.pc r=0→Rn.code r'=Rn.code r
 once:Rn.pc r=0→Rn.done r'=true
theorem Ku {n:Nat} {r:U1} (h:kM n r) (hn:n≤9000) {wi:Nat} {c0:T0} {p:m5} {fo:Option Nat} {d9:T9} {a gr:Nat} {th oo:Option Nat} {st:Int} (hw:c0[wi]?=some (p,(fo,(some a,(some gr,(th,(oo,st))))))) (hf:ER fo d9) (hp:p.1≤100) (c1:T5) (c2:T6) (c3:T7) (c4:T2) {d1:T1} {d2:T2} {d3:T3} {d4:T4} {j m:Nat} (hA:AR d1 d2 a j m) (hG:GI n d3 d4 gr) :
  Ok (g.dh wi r c0 c1 c2 c3 c4 d1 d2 d3 d4 d9) (fun x=>SD n r x.1.1∧x.2.1=d1∧AR d1 x.2.2.1 a j m∧GI (n+1) x.2.2.2.1 x.2.2.2.2.1 gr∧x.2.2.2.2.2.1=d9):=by
 unfold g.dh
 have e0:∀d,nth d c0 wi=(p,(fo,(some a,(some gr,(th,(oo,st)))))):=fun d=>bM hw
 simp only [e0]
 have h0:=h.run
 refine .br (fun e=>.bd (EG h0 _ _) fun q hq=>.some ⟨⟨hq.1,fun _=>hq.2.2,fun _=>hq.2.1⟩,rfl,hA,hG.up,rfl⟩) fun n0=>?_
 have n0:¬Rn.pc r=0:=cu.1 n0
 refine .br (fun e=>.gJ rfl (.gJ rfl (.bd (DT h0 hn (cQ.1 e) (fun k=>?_) hA hG p hp) fun q hq=>.some ⟨⟨hq.1,fun e=>absurd e n0,fun e=>absurd e n0⟩,rfl,hq.2.1,hq.2.2,rfl⟩))) fun n1=>?_
 ·have:=h.make k (cQ.1 e);omega
 have n1:¬Rn.pc r=1:=cu.1 n1
 refine .br (fun e=>.gJ rfl (.bd (FA h0 (cQ.1 e) n0 hA p) fun q hq=>.some ⟨⟨hq.1,fun e=>absurd e n0,fun e=>absurd e n0⟩,rfl,hq.2,hG.up,rfl⟩)) fun n7=>.br (fun e=>.gJ rfl (.bd (D7 h0 (cQ.1 e) n0 hA p) fun q hq=>.some ⟨⟨hq.1,fun e=>absurd e n0,fun e=>absurd e n0⟩,rfl,hq.2,hG.up,rfl⟩)) fun n4=>.br (fun e=>.opt (fun e0=>.gJ rfl (.bd (vF h0 (cQ.1 e) n0 hA p (e0▸hf)) fun q hq=>.some ⟨⟨hq.1,fun e=>absurd e n0,fun e=>absurd e n0⟩,hq.2.1,hq.2.2.1,hG.up,hq.2.2.2⟩)) fun jf e0=>.gJ rfl (.bd (vF h0 (cQ.1 e) n0 hA p (e0▸hf)) fun q hq=>.some ⟨⟨hq.1,fun e=>absurd e n0,fun e=>absurd e n0⟩,hq.2.1,hq.2.2.1,hG.up,hq.2.2.2⟩)) fun n5=>.gJ rfl (.bd (B2 h0 ⟨cu.1 n4,cu.1 n5,cu.1 n7⟩ ⟨n0,n1⟩ hA p) fun q hq=>.some ⟨⟨hq.1,fun e=>absurd e n0,fun e=>absurd e n0⟩,rfl,hq.2,hG.up,rfl⟩)
theorem SD.inv {n:Nat} {r r':U1} (h:kM n r) (hn:n≤9000) (s:SD n r r') (hd:Rn.done r'=false):kM (n+1) r':=by
 obtain ⟨s1,s2,s3⟩:=s
 have hp:Rn.pc r≠0:=fun e=>by have:=s3 e;rw [hd] at this;cases this
 have ho:Rn.op r'=Rn.op r:=by show r'.1.1=r.1.1;rw [s1.call]
 refine ⟨⟨s1.list,s1.said,by rw [s1.ch];exact h.run.ch,hd,s1.dZ.trans hd,s1.fin hd,by omega,by rw [ho];exact s1.pc hd⟩,fun o e=>?_,fun o e=>?_⟩
 ·rw [s1.call]
  have Mj:=s1.pc hd
  have h8:=h.run.pc
  rw [ho] at o
  rw [o] at h8
  refine h.make o ?_
  unfold dw at h8;omega
 ·rw [s1.call]
  rw [ho] at o
  exact h.eK o (.inl hp)
theorem SD.eK {n:Nat} {r r':U1} (h:kM n r) (s:SD n r r') (ho:sO (Rn.op r)) (hc:Rn.code r'=0):r.1.2.1<4:=by
 by_cases e:Rn.pc r=0
 ·exact h.eK ho (.inr ((s.code e).symm.trans hc))
 ·exact h.eK ho (.inl e)
open Go.Bm Go.oT
abbrev qg:Type:=List sb×(Option Nat×(List (Int×Bool)×(U1×(Bool×Int))))
abbrev zl:Type:=Int×(sb×(Int×(Int×(Int×(Int×(Int×List Int))))))
abbrev Th.calls (t:qg):List sb:=t.1
abbrev Th.gh (t:qg):List (Int×Bool):=t.2.2.1
abbrev Th.run (t:qg):U1:=t.2.2.2.1
abbrev Th.busy (t:qg):Bool:=t.2.2.2.2.1
abbrev Th.at (t:qg):Int:=t.2.2.2.2.2
abbrev Op.to (o:zl):Int:=o.2.2.2.2.1
abbrev Op.dZ (o:zl):Int:=o.2.2.2.1
structure WC where
 wi:Nat
 a:Nat
 gr:Nat
 th:Nat
 j:Nat
 m:Nat
 p:m5
 fo:Option Nat
 ts:List Nat
 rs:List Nat
structure WS where
 ops:List zl
 st:Nat
 tl:List qg
 rg:List (List Int)
abbrev Ds:Type:=T0×(T1×(T2×(T3×(T4×(T6×(T7×(T2×(T9×Unit))))))))
structure TI (n k:Nat) (ops:List zl) (t:qg):Prop where
 gh:(Th.gh t).length≤6
 calls:(Th.calls t).length≤64
 args:∀c∈Th.calls t,0≤c.2.1∧0≤c.2.2.1∧0≤c.2.2.2.1
 busy:Th.busy t=true→kM n (Th.run t)∧0≤(Th.run t).1.2.1∧∃q:Nat,Th.at t=(q:Int)∧∃o,ops[q]?=some o∧o.1=(k:Int)∧o.2.1=(Th.run t).1∧Op.to o = -1∧Op.dZ o = -1
structure WI (n:Nat) (C:WC) (s:WS) (c5:T5) (D:Ds):Prop where
 world:∃oo,D.1[C.wi]?=some (C.p,(C.fo,(some C.a,(some C.gr,(some C.th,(oo,(s.st:Int)))))))∧((oo=none∧s.ops=[])∨∃jo,oo=some jo∧aZ D.2.2.2.2.2.2.1 jo=some s.ops)
 ar:AR D.2.1 D.2.2.1 C.a C.j C.m
 gi:GI n D.2.2.2.1 D.2.2.2.2.1 C.gr
 je:ER C.fo D.2.2.2.2.2.2.2.2.1
 scopes:C.p.1≤100
 rows:aZ c5 C.th=some (C.ts.map some)
 four:C.ts.length≤4
 Rd:s.tl.length=C.ts.length
 Re:s.rg.length=C.ts.length
 Oz:∀(i k:Nat) x,C.ts[i]?=some x→C.ts[k]?=some x→i=k
 Ql:∀(i k:Nat) x,C.rs[i]?=some x→C.rs[k]?=some x→i=k
 said:∀o∈s.ops,o.2.2.2.2.2.2.2.length≤10000
 IE:∀(k:Nat) t,s.tl[k]?=some t→∃id rr w,C.ts[k]?=some id∧D.2.2.2.2.2.1[id]?=some t∧t.2.1=some rr∧C.rs[k]?=some rr∧s.rg[k]?=some w∧aZ D.2.2.2.2.2.2.2.1 rr=some w∧w.length=4∧TI n k s.ops t
theorem kM.up {n:Nat} {r:U1} (h:kM n r) (hn:n≤9000):kM (n+1) r:=by
 obtain ⟨⟨h1,h2,h3,h4,h5,h6,h7,h8⟩,h9,JE⟩:=h
 exact ⟨⟨by omega,by omega,h3,h4,h5,h6,by omega,h8⟩,h9,JE⟩
theorem WI.put {n n':Nat} {C:WC} {s:WS} {c5:T5} {D:Ds} (H:WI n C s c5 D) (hn:n≤9000) (Rz:n'=n∨n'=n+1) {k:Nat} {t t':qg} {id rr:Nat} (hk:s.tl[k]?=some t) (DE:C.ts[k]?=some id) (Dq:C.rs[k]?=some rr) (ht':t'.2.1=some rr)
  {vj:List zl} {zt:Nat} {Qm:List (List Int)} {w':List Int} {D':Ds}
  (h1:∃oo,D'.1[C.wi]?=some (C.p,(C.fo,(some C.a,(some C.gr,(some C.th,(oo,(zt:Int)))))))∧((oo=none∧vj=[])∨∃jo,oo=some jo∧aZ D'.2.2.2.2.2.2.1 jo=some vj))
  (h2:AR D'.2.1 D'.2.2.1 C.a C.j C.m) (h3:GI n' D'.2.2.2.1 D'.2.2.2.2.1 C.gr) (h4:D'.2.2.2.2.2.1=D.2.2.2.2.2.1.set id t')
  (h5:Qm[k]?=some w') (h5':∀i,i≠k→Qm[i]?=s.rg[i]?) (hl:Qm.length=s.rg.length) (h6:aZ D'.2.2.2.2.2.2.2.1 rr=some w') (h6':∀x,x≠rr→aZ D'.2.2.2.2.2.2.2.1 x=aZ D.2.2.2.2.2.2.2.1 x) (hw:w'.length=4)
  (ho:∀(q:Nat) o,s.ops[q]?=some o→o.1≠(k:Int)→vj[q]?=some o) (hT:TI n' k vj t') (h9:D'.2.2.2.2.2.2.2.2.1=D.2.2.2.2.2.2.2.2.1) (XF:∀o∈vj,o.2.2.2.2.2.2.2.length≤10000) :
  WI n' C ⟨vj,zt,s.tl.set k t',Qm⟩ c5 D':=by
 have XX:k<s.tl.length:=(zB.1 hk).1
 refine ⟨h1,h2,h3,by rw [h9];exact H.je,H.scopes,H.rows,H.four,by rw [zM];exact H.Rd,by rw [hl];exact H.Re,H.Oz,H.Ql,XF,?_⟩
 intro i t0 h0
 dsimp only at h0 ⊢
 by_cases e:i=k
 ·subst e
  rw [List.getElem?_set_self XX] at h0
  cases h0
  obtain ⟨id0,rr0,w0,a1,a2,a3,a4,a5,a6,a7,a8⟩:=H.IE i t hk
  rw [DE] at a1;cases a1
  have:id<D.2.2.2.2.2.1.length:=(zB.1 a2).1
  exact ⟨id,rr,w',DE,by rw [h4,List.getElem?_set_self this],ht',Dq,h5,h6,hw,hT⟩
 ·rw [List.getElem?_set_ne (fun h=>e h.symm)] at h0
  obtain ⟨id0,rr0,w0,a1,a2,a3,a4,a5,a6,a7,a8⟩:=H.IE i t0 h0
  refine ⟨id0,rr0,w0,a1,?_,a3,a4,(h5' i e).trans a5,?_,a7,?_⟩
  ·rw [h4,List.getElem?_set_ne]
   ·exact a2
   ·intro h;subst h;exact e (H.Oz i k _ a1 DE)
  ·rw [h6']
   ·exact a6
   ·intro h;subst h;exact e (H.Ql i k _ a4 Dq)
  ·refine ⟨a8.gh,a8.calls,a8.args,fun hb=>?_⟩
   obtain ⟨b1,b2,q,b3,o,b4,b5,b6⟩:=a8.busy hb
   refine ⟨?_,b2,q,b3,o,ho q o b4 (by rw [b5];intro h;exact e (by omega)),b5,b6⟩
   rcases Rz with rfl | rfl
   ·exact b1
   ·exact b1.up hn
def nH (t:qg):Bool:=!(Th.busy t) && decide ((Th.calls t).length=0)
theorem y0 {d6:T6} {id:Nat} {t:qg} (h:d6[id]?=some t) (d8:T2):g.bC id d6 d8=some ((nH t,()),()):=by
 unfold g.bC nH
 rw [bM h]
 cases hb:Th.busy t with
 | true=>
  have hb:t.2.2.2.2.1=true:=hb
  rw [hb];rfl
 | false=>
  have hb:t.2.2.2.2.1=false:=hb
  rw [hb]
  show some ((ah (zN (len t.1)) 0,()),())=_
  rw [eH]
  unfold ah
  show some ((decide ((t.1.length:Int)=0),()),())=some ((decide (t.1.length=0),()),())
  congr 3
  simp
theorem zp {α:Type} {l:List (Option (List α))} {j:Nat} {r:List α} (h:aZ l j=some r):aY l j (some r)=l:=by
 have:=Cc.1 h
 obtain ⟨eY,he⟩:=zB.1 this
 unfold aY
 rw [←he,List.set_getElem_self]
theorem x6 {α:Type} {d:α} {l:List α} {i:Nat} {x:α} (h:l[i]?=some x) (f:α→α):ao d l i f=l.set i (f x):=by unfold ao aY;rw [bM h]
theorem lz {α:Type} {l:List α} {i:Nat} {x:α} (h:l[i]?=some x) (y:α):(l.set i y)[i]?=some y:=List.getElem?_set_self (zB.1 h).1
theorem Hj {d6:T6} {d8:T2} {id rr:Nat} {cs:List sb} {es:List (Int×Bool)} {r:U1} {b:Bool} {q:Int} {w:List Int} (h:d6[id]?=some (cs,(some rr,(es,(r,(b,q)))))) (hw:aZ d8 rr=some w) (h4:w.length=4) (he:es.length≤6) (hr:Rn.code r=0→sO (Rn.op r)→0≤r.1.2.1∧r.1.2.1<4) :
  Ok (g.cG id d6 d8) (fun x=>∃nR w',nR.length≤6∧w'.length=4∧x.2.1=d6.set id (cs,(some rr,(nR,(r,(false,q)))))∧x.2.2.1=aY d8 rr (some w')):=by
 unfold g.cG
 have e1:∀f,ao aI d6 id f=d6.set id (f (cs,(some rr,(es,(r,(b,q)))))):=fun f=>x6 h f
 have h2:=lz h (cs,(some rr,(es,(r,(false,q)))))
 have e2:∀d,nth d (d6.set id (cs,(some rr,(es,(r,(false,q)))))) id=(cs,(some rr,(es,(r,(false,q))))):=fun d=>bM h2
 have e3:∀f,ao aI (d6.set id (cs,(some rr,(es,(r,(false,q)))))) id f=d6.set id (f (cs,(some rr,(es,(r,(false,q)))))):=fun f=>by rw [x6 h2];rw [List.set_set]
 simp only [e1,e2,e3]
 have same:aY d8 rr (some w)=d8:=zp hw
 refine .br (fun _=>.some ⟨es,w,he,h4,rfl,same.symm⟩) fun ec=>?_
 have ec:=cQ.1 (g6.1 ec)
 refine .br (fun e=>?_) fun n1=>.oi (fun s=>s.1.1=true→sO (Rn.op r)) (fun s hs=>.br (fun e=>?_) fun _=>.br (fun _=>.bd (uA he _) fun x hx=>.some ⟨_,w,hx,h4,rfl,same.symm⟩) fun _=>.br (fun _=>.bd (uA he _) fun x hx=>.some ⟨_,w,hx,h4,rfl,same.symm⟩) fun _=>.br (fun _=>.bd (EJ (by omega)) fun x hx=>.some ⟨_,w,Nat.le_trans hx.1 he,h4,rfl,same.symm⟩) fun _=>.some ⟨es,w,he,h4,rfl,same.symm⟩) fun k hk=>.br (fun e=>hk _ fun _=>.inr (.inl (cQ.1 e))) fun _=>.br (fun e=>hk _ fun _=>.inr (.inr (.inl (cQ.1 e)))) fun _=>hk _ fun e=>.inr (.inr (.inr (cQ.1 e)))
 ·obtain ⟨r1,r2⟩:=hr ec (.inl (cQ.1 e))
  exact .gJ rfl (.fI hw (.gd (by rw [bH];exact r1) (.gd (by rw [bQ,dS,aL];omega) (.fI hw (.some ⟨es,_,he,by unfold aY;rw [zM];exact h4,rfl,rfl⟩)))))
 ·obtain ⟨r1,r2⟩:=hr ec (hs e)
  exact .gJ rfl (.fI hw (.gd (by rw [bH];exact r1) (.gd (by rw [bQ,dS,aL];omega) (.fI hw (.some ⟨es,_,he,by unfold aY;rw [zM];exact h4,rfl,rfl⟩)))))
open Go.Bm Go.oT
def pG (k:Nat) (c:sb) (st:Nat):zl:=((k:Int),(c,((st:Int),(-1,(-1,(0,(0,[])))))))
def qN (o:zl) (st:Nat) (r:U1):zl:=(o.1,(o.2.1,(o.2.2.1,((st:Int),((st:Int),r.2.2.2.2.2.2.2.2.2.2.2.2.2.2.2.2.2)))))
def km (t:qg) (r:U1):qg:=(t.1,(t.2.1,(t.2.2.1,(r,t.2.2.2.2))))
def JX (k:Nat) (t:qg) (ops:List zl) (st:Nat) (t1:qg) (g_:List zl):Prop:=
 (Th.busy t=true∧t1=t∧g_=ops)∨(Th.busy t=false∧∃c cs r,t.1=c::cs∧r.1=c∧t1=(cs,(t.2.1,(t.2.2.1,(r,(true,(ops.length:Int))))))∧g_=ops++[pG k c st])
def JU (k:Nat) (t:qg) (s s':WS):Prop:=∃t1 g_ r',JX k t s.ops s.st t1 g_∧s'.st=s.st+1 ∧
  ((Rn.done r'=false∧s'.ops=g_∧s'.tl=s.tl.set k (km t1 r')∧s'.rg=s.rg) ∨
   (Rn.done r'=true∧∃nR w' q o,Th.at t1=((q:Nat):Int)∧g_[q]?=some o∧o.1=(k:Int)∧Op.to o = -1∧s'.ops=g_.set q (qN o s.st r')∧s'.tl=s.tl.set k (t1.1,(t1.2.1,(nR,(r',(false,t1.2.2.2.2.2)))))∧s'.rg=s.rg.set k w'))
def wC (n:Nat) (C:WC) (s:WS) (c5:T5) (D:Ds) (i:Int) (r:(Bool×(Int×Unit))×Ds):Prop:=
 (r.2=D∧((¬(0≤i∧i<s.tl.length)∧r.1=(false,(2,())))∨(∃(k:Nat) (t:qg),i=(k:Int)∧s.tl[k]?=some t∧nH t=true∧r.1=(false,(23,()))))) ∨
 (r.1.2.1=0∧∃(k:Nat) (t:qg) (s':WS),i=(k:Int)∧s.tl[k]?=some t∧nH t=false∧JU k t s s'∧WI (n+1) C s' c5 r.2∧∃t',s'.tl[k]?=some t'∧r.1.1=nH t')
theorem uQ {α:Type} {l:List α} {k:Nat} {t:α} (h:l[k]?=some t):l.set k t=l:=by
 obtain ⟨eY,he⟩:=zB.1 h
 rw [←he,List.set_getElem_self]
set_option maxHeartbeats 2000000 in
theorem HE {n:Nat} {C:WC} {s:WS} {c5:T5} {D:Ds} (H:WI n C s c5 D) (hn:n≤9000) (sE:s.st≤n) (nE:s.ops.length≤n) (i:Int) (hi : -9223372036854775808≤i∧i≤9223372036854775807) :
  Ok (g.bU C.wi i c5 D.1 D.2.1 D.2.2.1 D.2.2.2.1 D.2.2.2.2.1 D.2.2.2.2.2.1 D.2.2.2.2.2.2.1 D.2.2.2.2.2.2.2.1 D.2.2.2.2.2.2.2.2.1) (wC n C s c5 D i):=by
 unfold g.bU
 obtain ⟨oo,hw,XO⟩:=H.world
 have e0:∀d,nth d D.1 C.wi=(C.p,(C.fo,(some C.a,(some C.gr,(some C.th,(oo,(s.st:Int))))))):=fun d=>bM hw
 simp only [e0]
 have mj:=H.rows
 have eY:=H.Rd
 have h4:=H.four
 have hlen:zN (len (C.ts.map some))=(C.ts.length:Int):=by rw [eH,zH]
 refine .gJ rfl (.fI mj (.fI (aP _ _ _) (.br (fun hb=>.some (.inl ⟨rfl,.inl ⟨?_,rfl⟩⟩)) fun hb=>?_)))
 ·have hb:=iv.1 hb
  rw [hlen,bV (by omega)] at hb
  intro h
  have:within i 0 ((C.ts.length:Int)-1)=true:=dJ.2 (by omega)
  have hb:within i 0 ((C.ts.length:Int)-1)=false:=hb
  rw [this] at hb;cases hb
 have hb:=g6.1 hb
 rw [hlen,bV (by omega)] at hb
 have hb:=dJ.1 hb
 obtain ⟨k,rfl⟩:∃k:Nat,i=(k:Int):=⟨i.toNat,by omega⟩
 have hk:k<s.tl.length:=by omega
 obtain ⟨t,ht⟩:∃t,s.tl[k]?=some t:=⟨_,zD hk⟩
 obtain ⟨id,rr,w,a1,a2,a3,a4,a5,a6,a7,a8⟩:=H.IE k t ht
 have KR:nth none (C.ts.map some) (nN (k:Int))=some id:=by
  show nth none (C.ts.map some) k=some id
  exact bM (by rw [zL,a1];rfl)
 have hkg:bo (nN (k:Int)) (len (C.ts.map some)):=by rw [bQ,aL,zH];show k<_;omega
 refine .gJ rfl (.fI mj (.gd (by rw [bH];omega) (.gd hkg (.fI mj (.gJ KR (.fI (y0 a2 _) (.br (fun e=>.some (.inl ⟨rfl,.inr ⟨k,t,rfl,ht,e,rfl⟩⟩)) fun e=>?_)))))))
 have et:∀d,nth d D.2.2.2.2.2.1 id=t:=fun d=>bM a2
 have eu:∀f,ao aI D.2.2.2.2.2.1 id f=D.2.2.2.2.2.1.set id (f t):=fun f=>x6 a2 f
 have es:∀(x:qg) d,nth d (D.2.2.2.2.2.1.set id x) id=x:=fun x d=>bM (lz a2 x)
 have eus:∀(x:qg) f,ao aI (D.2.2.2.2.2.1.set id x) id f=D.2.2.2.2.2.1.set id (f x):=fun x f=>by rw [x6 (lz a2 x),List.set_set]
 have ew:∀f,ao bD D.1 C.wi f=D.1.set C.wi (f (C.p,(C.fo,(some C.a,(some C.gr,(some C.th,(oo,(s.st:Int)))))))):=fun f=>x6 hw f
 simp only [et,eu,es,eus,ew]
 have he:nH t=false:=e
 refine .oi (fun z=>∃t1 g_,JX k t s.ops s.st t1 g_∧WI n C ⟨g_,s.st,s.tl.set k t1,s.rg⟩ c5 (z.2.2.2.2.1,(D.2.1,(D.2.2.1,(D.2.2.2.1,(D.2.2.2.2.1,(z.2.2.2.2.2.1,(z.2.2.2.2.2.2.1,(D.2.2.2.2.2.2.2.1,(D.2.2.2.2.2.2.2.2.1,())))))))))∧Th.busy t1=true) (fun z hz=>?_) fun kk kJ=>.br (fun hb=>?_) fun hb=>kJ _ ⟨t,s.ops,.inl ⟨g6.1 hb,rfl,rfl⟩,?_,g6.1 hb⟩
 rotate_left
 ·-- a call aaF
  have hb:Th.busy t=false:=iv.1 hb
  have hc:0<t.1.length:=by
   unfold nH at he
   rw [hb] at he
   have:¬(t.1.length=0):=by simpa using he
   omega
  obtain ⟨c,cs,JB⟩:∃c cs,t.1=c::cs:=by
   cases Ru:t.1 with
   | nil=>rw [Ru] at hc;exact absurd hc (by simp)
   | cons c cs=>exact ⟨c,cs,rfl⟩
  have DK:=a8.args c (by show c∈t.1;rw [JB];exact zV ..)
  have ecs:tk (aC (len t.1) 1) (dr 1 t.1)=cs:=by
   rw [JB];show List.take ((cs.length+1)-1) cs=cs
   rw [Nat.add_sub_cancel,List.take_length]
  have en:∀d,nth d t.1 0=c:=fun d=>by rw [JB];rfl
  simp only [ecs,en]
  refine .gd (by rw [bQ,aL];omega) (.gd (by rw [db,aL];omega) (.gd (by rw [db];exact Nat.le_refl _) (.gJ a3 (.bd (Uy a6 a7 a8.gh ⟨DK.2.1,DK.2.2⟩) fun x hx=>?_))))
  obtain ⟨KJ,hx2⟩:=hx
  have key:∀(q:Int) (jo:Nat) (Vx:T7),q=(s.ops.length:Int)→aZ Vx jo=some (s.ops++[pG k c s.st])→Ok (kk ((),((),((),((),(D.1.set C.wi (C.p,(C.fo,(some C.a,(some C.gr,(some C.th,(some jo,(s.st:Int))))))),(D.2.2.2.2.2.1.set id (cs,(t.2.1,(t.2.2.1,(x.1.1,(true,q))))),(Vx,())))))))) (wC n C s c5 D (k:Int)):=by
   intro q jo Vx hq hd7
   refine kJ _ ⟨(cs,(t.2.1,(t.2.2.1,(x.1.1,(true,q))))),s.ops++[pG k c s.st],.inr ⟨hb,c,cs,x.1.1,JB,KJ,by rw [hq],rfl⟩,?_,rfl⟩
   refine H.put (t':=(cs,(t.2.1,(t.2.2.1,(x.1.1,(true,q)))))) (vj:=s.ops++[pG k c s.st]) (D':=(D.1.set C.wi (C.p,(C.fo,(some C.a,(some C.gr,(some C.th,(some jo,(s.st:Int))))))),(D.2.1,(D.2.2.1,(D.2.2.2.1,(D.2.2.2.2.1,(D.2.2.2.2.2.1.set id (cs,(t.2.1,(t.2.2.1,(x.1.1,(true,q))))),(Vx,(D.2.2.2.2.2.2.2.1,(D.2.2.2.2.2.2.2.2.1,())))))))))) hn (.inl rfl) ht a1 a4 a3 ⟨some jo,lz hw _,.inr ⟨jo,rfl,hd7⟩⟩ H.ar H.gi rfl a5 (fun _ _=>rfl) rfl a6 (fun _ _=>rfl) a7 (fun q' o' h' _=>?_) ⟨a8.gh,?_,?_,fun _=>⟨hx2 n (by omega),?_,s.ops.length,hq,pG k c s.st,?_,rfl,?_,rfl,rfl⟩⟩ rfl (fun o' Dz=>?_)
   ·rw [zK (zB.1 h').1];exact h'
   ·have:=a8.calls;show cs.length≤64
    have h':t.1.length≤64:=this
    rw [JB] at h';rw [zR] at h';omega
   ·intro c' Fh
    exact a8.args c' (by show c'∈t.1;rw [JB];exact zT _ Fh)
   ·show 0≤x.1.1.1.2.1;rw [KJ];exact DK.1
   ·rw [zJ (Nat.le_refl _),Nat.sub_self];rfl
   ·exact KJ.symm
   ·rcases zX.1 Dz with h | h
    ·exact H.said o' h
    ·rw [zF] at h;subst h;exact Nat.zero_le _
  have one:bt (len (α:=zl) [pG k c s.st]) 16777216:=by rw [db,aL];show 1≤_;omega
  rcases XO with ⟨rfl,rS⟩ | ⟨jo,rfl,Jx⟩
  ·refine .Ai rfl (.Ai rfl (.gd one (key 0 (len D.2.2.2.2.2.2.1) _ (by rw [rS];rfl) ?_)))
   rw [rS]
   exact gH
  ·refine .gJ rfl (.fI Jx (.gJ rfl (.fI Jx (.gd ?_ (.gd ?_ (key _ (len (aY D.2.2.2.2.2.2.1 jo none)) _ (eH _) ?_))))))
   ·rw [db]
    show len s.ops+len (α:=zl) [pG k c s.st]≤_
    rw [aL,aL];show _+1≤_;omega
   ·rw [bQ,aL];exact oZ Jx
   ·exact gH
 ·-- one is on its way
  rw [uQ ht]
  exact H
 obtain ⟨t1,g_,hB,H1,hbz⟩:=hz
 obtain ⟨oo1,Jq,XN⟩:=H1.world
 have Vm:(s.tl.set k t1)[k]?=some t1:=List.getElem?_set_self hk
 obtain ⟨id1,UK,w1,b1,b2,b3,b4,b5,b6,b7,b8⟩:=H1.IE k t1 Vm
 rw [a1] at b1;cases b1
 rw [a4] at b4;cases b4
 obtain ⟨c1,c2,q,c3,o,c4,c5',c6,c7,c8⟩:=b8.busy hbz
 obtain ⟨jo,rfl,Jx⟩:∃jo,oo1=some jo∧aZ z.2.2.2.2.2.2.1 jo=some g_:=by
  rcases XN with ⟨_,h⟩ | ⟨jo,h1,h2⟩
  ·have h:g_=[]:=h
   rw [h] at c4;cases c4
  ·exact ⟨jo,h1,h2⟩
 have f0:∀d,nth d z.2.2.2.2.1 C.wi=(C.p,(C.fo,(some C.a,(some C.gr,(some C.th,(some jo,(s.st:Int))))))):=fun d=>bM Jq
 have ft:∀d,nth d z.2.2.2.2.2.1 id=t1:=fun d=>bM b2
 have fu:∀f,ao aI z.2.2.2.2.2.1 id f=z.2.2.2.2.2.1.set id (f t1):=fun f=>x6 b2 f
 have fw:∀f,ao bD z.2.2.2.2.1 C.wi f=z.2.2.2.2.1.set C.wi (f (C.p,(C.fo,(some C.a,(some C.gr,(some C.th,(some jo,(s.st:Int)))))))):=fun f=>x6 Jq f
 simp only [f0,ft,fu,fw]
 refine .oi (fun y=>∃r',SD n (Th.run t1) r'∧y.2.2.2.2.1=D.2.1∧AR D.2.1 y.2.2.2.2.2.1 C.a C.j C.m∧GI (n+1) y.2.2.2.2.2.2.1 y.2.2.2.2.2.2.2.1 C.gr∧y.2.2.2.2.2.2.2.2.1=z.2.2.2.2.2.1.set id (km t1 r')∧y.2.2.2.2.2.2.2.2.2.1=D.2.2.2.2.2.2.2.2.1) (fun y hy=>?_) fun kk kJ=>.bd (Ku c1 hn Jq H.je H.scopes _ _ _ _ H.ar H.gi) fun x hx=>kJ _ ⟨x.1.1,hx.1,hx.2.1,hx.2.2.1,hx.2.2.2.1,rfl,hx.2.2.2.2⟩
 obtain ⟨r',hS,y1,y2,y3,y4,y5⟩:=hy
 have g2:=lz b2 (km t1 r')
 rw [←y4] at g2
 have gt:∀d,nth d y.2.2.2.2.2.2.2.2.1 id=km t1 r':=fun d=>bM g2
 simp only [gt]
 have bO:(km t1 r').2.2.2.2.2=(q:Int):=c3
 have GM:q<g_.length:=(zB.1 c4).1
 have eq0:nN (q:Int)=q:=rfl
 simp only [bO,eq0]
 refine .gJ rfl (.fI Jx (.gd (by rw [bH];omega) (.gd (by rw [bQ,aL];exact GM) (.oi (fun v=>aZ v.2.2.2.2.1 jo=some (if Rn.dZ r'=true then g_.set q (o.1,(o.2.1,(o.2.2.1,((s.st:Int),o.2.2.2.2)))) else g_)) (fun v hv=>?_) fun kk kJ=>.br (fun e=>.fI Jx (kJ _ ?_)) fun e=>kJ _ ?_))))
 rotate_left
 ·have e:Rn.dZ r'=true:=e
  rw [if_pos e]
  show aZ (aY _ _ _) _=_
  rw [cp Jx,x6 c4]
 ·have e:Rn.dZ r'=false:=e
  rw [if_neg (by rw [e];simp)]
  exact Jx
 refine .oi (fun u=>∃t2 Aj w2,u.2.2.2.2.1=z.2.2.2.2.2.1.set id t2∧aZ u.2.2.2.2.2.1 jo=some Aj∧aZ u.2.2.2.2.2.2.1 rr=some w2∧w2.length=4∧(∀x,x≠rr→aZ u.2.2.2.2.2.2.1 x=aZ D.2.2.2.2.2.2.2.1 x)∧((Rn.done r'=false∧t2=km t1 r'∧Aj=g_∧w2=w1)∨(Rn.done r'=true∧∃nR,nR.length≤6∧t2=(t1.1,(t1.2.1,(nR,(r',(false,t1.2.2.2.2.2)))))∧Aj=g_.set q (qN o s.st r')))) (fun u hu=>?_) fun kk kJ=>.br (fun e=>?_) fun e=>?_
 rotate_left
 ·-- a call is done
  have e:Rn.done r'=true:=e
  have ep:Rn.dZ r'=true:=hS.sp.dZ.trans e
  rw [if_pos ep] at hv
  refine .fI hv (.fI (cp hv) ?_)
  have Mi:Rn.code r'=0→sO (Rn.op r')→0≤r'.1.2.1∧r'.1.2.1<4:=fun h1 h2=>by
   rw [hS.sp.call]
   have h2:sO (Rn.op (Th.run t1)):=by
    have:Rn.op r'=Rn.op (Th.run t1):=by show r'.1.1=_;rw [hS.sp.call]
    rw [←this];exact h2
   exact ⟨c2,hS.eK c1 h2 h1⟩
  have g3:y.2.2.2.2.2.2.2.2.1[id]?=some (t1.1,(some rr,(t1.2.2.1,(r',(t1.2.2.2.2.1,t1.2.2.2.2.2))))):=by
   rw [g2];unfold km;rw [b3]
  refine .bd (Hj g3 b6 b7 b8.gh Mi) fun x hx=>?_
  obtain ⟨nR,w',x1,x2,x3,x4⟩:=hx
  refine kJ _ ⟨(t1.1,(t1.2.1,(nR,(r',(false,t1.2.2.2.2.2))))),g_.set q (qN o s.st r'),w',?_,?_,?_,x2,?_,.inr ⟨e,nR,x1,rfl,rfl⟩⟩
  ·show x.2.1=_
   rw [x3,y4,List.set_set,b3]
  ·show aZ (aY _ jo _) jo=_
   have h1:=lz c4 (o.1,(o.2.1,(o.2.2.1,((s.st:Int),o.2.2.2.2))))
   rw [cp (cp hv),x6 h1,List.set_set]
   rw [x6 (lz c4 _),List.set_set]
   rfl
  ·show aZ x.2.2.1 rr=_
   rw [x4,cp b6]
  ·intro x' nP
   show aZ x.2.2.1 x'=_
   rw [x4,yf (oZ b6),if_neg (fun h=>nP h.symm)]
 ·-- it af4 on
  have e:Rn.done r'=false:=e
  have ep:Rn.dZ r'=false:=hS.sp.dZ.trans e
  rw [if_neg (by rw [ep];simp)] at hv
  exact kJ _ ⟨km t1 r',g_,w1,y4,hv,b6,b7,fun _ _=>rfl,.inl ⟨e,rfl,rfl,rfl⟩⟩
 obtain ⟨t2,Aj,w2,u1,u2,u3,u4,u5,u6⟩:=hu
 have h2:=lz b2 t2
 rw [←u1] at h2
 refine .fI (y0 h2 _) (.some (.inr ⟨rfl,k,t,⟨Aj,s.st+1,s.tl.set k t2,s.rg.set k w2⟩,rfl,ht,he,?_,?_,t2,List.getElem?_set_self hk,rfl⟩))
 ·refine ⟨t1,g_,r',hB,rfl,?_⟩
  rcases u6 with ⟨e,rfl,rfl,rfl⟩ | ⟨e,nR,e1,rfl,rfl⟩
  ·exact .inl ⟨e,rfl,rfl,uQ b5⟩
  ·exact .inr ⟨e,nR,w2,q,o,c3,c4,c5',c7,rfl,rfl,rfl⟩
 ·have XY:k<s.rg.length:=by have:=H.Re;omega
  have key:=H1.put (n':=n+1) (t':=t2) (vj:=Aj) (zt:=s.st+1) (Qm:=s.rg.set k w2) (w':=w2) (D':=(z.2.2.2.2.1.set C.wi (C.p,(C.fo,(some C.a,(some C.gr,(some C.th,(some jo,ae .i64 (s.st:Int) 1)))))),(y.2.2.2.2.1,(y.2.2.2.2.2.1,(y.2.2.2.2.2.2.1,(y.2.2.2.2.2.2.2.1,(u.2.2.2.2.1,(u.2.2.2.2.2.1,(u.2.2.2.2.2.2.1,(y.2.2.2.2.2.2.2.2.2.1,()))))))))))
   hn (.inr rfl) Vm a1 a4 ?_ ⟨some jo,?_,.inr ⟨jo,rfl,u2⟩⟩ ?_ y3 u1 ?_ ?_ ?_ u3 u5 u4 ?_ ?_ y5 ?_
  ·have e2:(s.tl.set k t1).set k t2=s.tl.set k t2:=List.set_set ..
   rw [e2] at key
   exact key
  ·rcases u6 with ⟨e,rfl,rfl,rfl⟩ | ⟨e,nR,e1,rfl,rfl⟩
   ·exact b3
   ·exact b3
  ·show (z.2.2.2.2.1.set C.wi _)[C.wi]?=_
   rw [lz Jq,a_ (by omega)]
   rfl
  ·show AR y.2.2.2.2.1 _ _ _ _
   rw [y1];exact y2
  ·exact List.getElem?_set_self XY
  ·intro i' Jy
   exact List.getElem?_set_ne (fun h=>Jy h.symm)
  ·exact zM ..
  ·intro q' o' h' jN
   rcases u6 with ⟨e,rfl,rfl,rfl⟩ | ⟨e,nR,e1,rfl,rfl⟩
   ·exact h'
   ·rw [List.getElem?_set_ne]
    ·exact h'
    ·intro h
     subst h
     have h':g_[q]?=some o':=h'
     rw [c4] at h';cases h'
     exact jN c5'
  ·rcases u6 with ⟨e,rfl,rfl,rfl⟩ | ⟨e,nR,e1,rfl,rfl⟩
   ·exact ⟨b8.gh,b8.calls,b8.args,fun _=>⟨hS.inv c1 hn e,by show 0≤r'.1.2.1;rw [hS.sp.call];exact c2,q,c3,o,c4,c5',by show _=r'.1;rw [hS.sp.call];exact c6,c7,c8⟩⟩
   ·exact ⟨e1,b8.calls,b8.args,fun h=>by cases h⟩
  ·rcases u6 with ⟨e,rfl,rfl,rfl⟩ | ⟨e,nR,e1,rfl,rfl⟩
   ·exact H1.said
   ·intro o' Dz
    rcases List.mem_or_eq_of_mem_set Dz with h | rfl
    ·exact H1.said o' h
    ·have:=hS.sp.zh e
     show (Rn.zh r').length≤10000
     omega
open Go.Bm Go.oT
theorem Ay {α:Type} {d x:α} {l:List α}:nth d (cat l [x]) (len l)=x:=vu
def mM (o:oU):Prop:=(o.1=0∧0≤o.2.1∧o.2.1≤99∧o.2.2=0)∨(o.1=1∧0≤o.2.1∧o.2.1≤5∧o.2.2=0)∨(o.1=2∧0≤o.2.1∧o.2.1≤5∧0≤o.2.2∧o.2.2≤5)∨(o.1=3∧0≤o.2.1∧o.2.1≤5∧0≤o.2.2∧o.2.2≤8)∨(o.1=4∧o.2.1=0∧o.2.2=0)
def iQ (f:List (List oU)):Prop:=f.length≤8∧∀l∈f,l.length≤8∧∀o∈l,mM o
theorem iQ.ok {f:List (List oU)} (h:iQ f):DZ f:=⟨h.1,fun l hl=>⟨(h.2 l hl).1,fun o ho=>by
 have:=(h.2 l hl).2 o ho
 unfold mM at this;unfold Ks;omega⟩⟩
theorem vY {f:List (List oU)} {i:Nat} {l:List oU} (hl:nth [] f i=l) (h8:l.length≤8) (ho:∀o∈l,mM o) (v1) :
  loop (g.g5 f (((i:Int),()),((),((),((),())))) v1) ((0,()),((),((),((),()))))=v1 (((ae IntKind.i64 (i:Int) 1),()),((),((),((),())))):=by
 refine (lH (fun k=>((((k:Nat):Int),()),((),((),((),()))))) (fun _=>v1 (((ae IntKind.i64 (i:Int) 1),()),((),((),((),()))))) l.length (by unfold lu;omega) (fun K=>?_) (fun k hk=>.inr ⟨rfl,fun K=>?_⟩))
 ·unfold g.g5
  dsimp only
  rw [show nth [] f (nN (i:Int))=l from hl]
  repeat refine HS ?_
  rfl
 ·have hp:=ho l[k] (List.getElem_mem hk)
  have e:∀d,nth d l (nN (k:Int))=l[k]:=fun d=>fk hk
  unfold g.g5
  dsimp only
  rw [show nth [] f (nN (i:Int))=l from hl]
  rw [e]
  generalize l[k]=o at *
  have ei:ae IntKind.i64 (k:Int) 1=((k+1:Nat):Int):=by rw [a_ (by omega)];omega
  have ew:cl IntKind.i64 o.1=o.1:=fY (by unfold mM at hp;omega)
  rw [ei,ew]
  obtain ⟨op,a,b⟩:=o
  unfold mM at hp
  dsimp only at hp ⊢
  have wT:∀x lo hi:Int,lo≤x→x≤hi→within x lo hi=true:=fun x lo hi h1 h2=>kD.2 ⟨h1,h2⟩
  rcases hp with ⟨rfl,h1,h2,rfl⟩ | ⟨rfl,h1,h2,rfl⟩ | ⟨rfl,h1,h2,h3,h4⟩ | ⟨rfl,h1,h2,h3,h4⟩ | ⟨rfl,rfl,rfl⟩
  ·have w1:=wT a 0 99 (by omega) (by omega)
   have w2:=wT 0 0 0 (by omega) (by omega)
   repeat refine HS ?_
   rfl
  ·have w1:=wT a 0 5 (by omega) (by omega)
   have w2:=wT 0 0 0 (by omega) (by omega)
   repeat refine HS ?_
   rfl
  ·have w1:=wT a 0 5 (by omega) (by omega)
   have w2:=wT b 0 5 (by omega) (by omega)
   repeat refine HS ?_
   rfl
  ·have w1:=wT a 0 5 (by omega) (by omega)
   have w2:=wT b 0 8 (by omega) (by omega)
   repeat refine HS ?_
   rfl
  ·have w2:=wT 0 0 0 (by omega) (by omega)
   repeat refine HS ?_
   rfl
theorem vX {f:List (List oU)} (h:iQ f):g.jQ f=some ((true,()),()):=by
 have h8:=h.1
 unfold g.jQ
 refine (lH (fun k=>((((k:Nat):Int),()),((),((),((),()))))) (fun _=>some ((true,()),())) f.length (by unfold lu;omega) (fun K=>?_) (fun k hk=>.inr ⟨rfl,fun K=>?_⟩))
 ·unfold g.iz
  dsimp only
  repeat refine HS ?_
  have:dq (zN (len f)) 8=true:=decide_eq_true (by rw [fQ,aL];omega)
  rw [this]
 ·have hl:=h.2 f[k] (List.getElem_mem hk)
  unfold g.iz
  dsimp only
  repeat refine HS ?_
  refine Eq.trans (vY (fk hk) hl.1 hl.2 K) ?_
  have ei:ae IntKind.i64 (k:Int) 1=((k+1:Nat):Int):=by rw [a_ (by omega)];omega
  rw [ei]
theorem t_ {r2:T3} {r4:T4} {a n:Int} (ha:0≤a∧a≤65536∧a%8=0) (hn:0≤n∧n≤65536∧n%8=0) :
  ∃pR pQ,g.fU a n r2 r4=some (((some r2.length),(0,())),(pR,(pQ,())))∧m6 pR pQ r2.length a (a+n) (if 0<n then [(a,n)] else []):=by
 have w1:within a 0 65536=true:=kD.2 ⟨ha.1,ha.2.1⟩
 have w2:within n 0 65536=true:=kD.2 ⟨hn.1,hn.2.1⟩
 have hb:=(yp (a:=a) (b:=n) (by omega) (by omega)).2 ⟨ha.2.2,hn.2.2⟩
 have es:ae IntKind.i64 a n=a+n:=a_ (by omega)
 by_cases h0:0<n
 ·rw [if_pos h0]
  refine ⟨?r2,?r4,?eq,?rel⟩
  case eq=>
   unfold g.fU
   repeat refine HS ?_
   rfl
  case rel=>
   rw [es]
   refine ⟨some r4.length,?_,.inr ⟨_,rfl,gH⟩⟩
   unfold ao
   rw [Ay]
   exact oW (by show (r2++[_])[r2.length]?=_;simp;rfl)
 ·rw [if_neg h0]
  refine ⟨?s2,?s4,?eq2,?rel2⟩
  case eq2=>
   unfold g.fU
   repeat refine HS ?_
   rfl
  case rel2=>
   rw [es]
   exact ⟨none,by show (r2++[_])[r2.length]?=_;simp,.inl ⟨rfl,rfl⟩⟩
open Go.Bm Go.oT
theorem ua {p:m5} (hp:eQ p=true) (d1:T1) (d2:T2) (d3:T3) (d4:T4):Ok (g.jP p d1 d2 d3 d4) (fun r=>r.1.1=some d1.length∧r.1.2.1=some d3.length∧(∃m,AR r.2.1 r.2.2.1 d1.length d2.length m)∧GI 0 r.2.2.2.1 r.2.2.2.2.1 d3.length):=by
 have h:=gu.1 hp
 have e1:g.jM p=some ((p.1*64+p.2.2.1+p.2.2.2,(0,())),()):=by
  unfold g.jM
  rw [l_ (pE hp),a_ (by dsimp only;omega)]
 have hN:0≤p.1*64+p.2.2.1+p.2.2.2∧p.1*64+p.2.2.1+p.2.2.2≤65536∧(p.1*64+p.2.2.1+p.2.2.2)%8=0:=by omega
 generalize hM:p.1*64+p.2.2.1+p.2.2.2=M at e1 hN
 have e2:g.jU M d1 d2=some (((some d1.length),(0,())),((cat d1 [some d2.length]),((cat d2 [some (rep (α:=Int) (nN M) 0)]),()))):=by
  unfold g.jU
  rw [l_ (aP _ _ _)]
  have:within M 0 65536=true:=dJ.2 (by omega)
  rw [this]
  show br (af (ah (bJ M 8) 0)) _ _=_
  have:ah (bJ M 8) 0=true:=cQ.2 (by rw [yE (by omega)];omega)
  rw [this]
  show gd (bn M) _=_
  rw [oC (show bn M by rw [bH];omega),oC (show bt (nN M) 16777216 by rw [db,dS];omega)]
  rfl
 have hA:AR (cat d1 [some d2.length]) (cat d2 [some (rep (α:=Int) (nN M) 0)]) d1.length d2.length M.toNat:=⟨by show (d1++[_])[d1.length]?=_;simp,by omega,_,gH,by show (List.replicate _ _).length=_;rw [List.length_replicate];rfl⟩
 obtain ⟨r3,r4,e3,hG⟩:=t_ (r2:=d3) (r4:=d4) (a:=p.1*64+p.2.2.1) (n:=p.2.2.2) (by omega) (by omega)
 have hGI:GI 0 r3 r4 d3.length:=by
  refine ⟨_,_,_,hG,by omega,?_,?_⟩
  ·intro x hx
   split at hx
   ·rw [zF] at hx;subst hx;unfold jq;dsimp only;omega
   ·cases hx
  ·split
   ·exact Nat.le_refl _
   ·exact Nat.zero_le _
 unfold g.jP
 refine .fI e1 (.br (fun e=>nomatch (show false=true from e)) fun _=>.fI e2 (.gJ rfl (.fI (pE hp) (.fI e3 (.gJ rfl (.fI (lW hp) (.bd (dQ hA _ _ _) fun w hw=>.bd (bN hw _ _ _ _) fun w hw=>.bd (bN hw _ _ _ _) fun w hw=>.some ⟨rfl,rfl,⟨_,hw⟩,hGI⟩)))))))
theorem Eo {α:Type} {d x:α} {l:List α}:nth d (cat l [x]) (len l)=x:=bM (by show (l++[x])[l.length]?=_;simp)
theorem Em {α:Type} {d x:α} {l:List α} (f:α→α):ao d (cat l [x]) (len l) f=cat l [f x]:=by
 rw [x6 (show (cat l [x])[len l]?=some x by show (l++[x])[l.length]?=_;simp)]
 show (l++[x]).set l.length (f x)=l++[f x]
 rw [List.set_append_right _ _ (Nat.le_refl _),Nat.sub_self];rfl
theorem JW {l:List oU} (hl:l.length≤100):g.eR l=some ((l,()),()):=by
 unfold g.eR
 rw [oC (show bt (aN 0 (len l)) 16777216 by rw [db,aL];show 0+_≤_;omega)]
 rfl
theorem UA {l:List sb} (hl:l.length≤100):g.gp l=some ((l,()),()):=by
 unfold g.gp
 rw [oC (show bt (aN 0 (len l)) 16777216 by rw [db,aL];show 0+_≤_;omega)]
 rfl
def Ws:U1:=((0,(0,(0,(0,(0,(0,0)))))),(0,(0,(0,(0,([],(0,(0,(0,(0,([],(0,([],(0,(false,(false,(false,(0,(0,[])))))))))))))))))))
def OA (cZ:List (List sb)) (b i:Nat):qg:=(cZ.getD i [],(some (b+i),([],(Ws,(false,0)))))
def BX (cZ:List (List sb)) (b k:Nat):List qg:=(List.range k).map (OA cZ b)
theorem uO (cZ:List (List sb)) (b k:Nat):BX cZ b (k+1)=BX cZ b k++[OA cZ b k]:=by unfold BX;rw [List.range_succ,List.map_append];rfl
theorem sW (cZ:List (List sb)) (b k:Nat):(BX cZ b k).length=k:=by unfold BX;rw [zH,List.length_range]
def ids (b k:Nat):List Nat:=(List.range k).map (fun i=>b+i)
theorem Dm (b k:Nat):ids b (k+1)=ids b k++[b+k]:=by unfold ids;rw [List.range_succ,List.map_append];rfl
theorem mP (b k:Nat):(ids b k).length=k:=by unfold ids;rw [zH,List.length_range]
theorem tR {b k i x:Nat} (h:(ids b k)[i]?=some x):x=b+i∧i<k:=by
 have hi:i<k:=by have:=(zB.1 h).1;rw [mP] at this;exact this
 unfold ids at h
 rw [zL,List.getElem?_range hi] at h
 cases h
 exact ⟨rfl,hi⟩
theorem yM {b k i:Nat} (h:i<k):(ids b k)[i]?=some (b+i):=by
 unfold ids
 rw [zL,List.getElem?_range h];rfl
theorem J2 {cZ:List (List sb)} {b k i:Nat} {t:qg} (h:(BX cZ b k)[i]?=some t):t=OA cZ b i∧i<k:=by
 have hi:i<k:=by have:=(zB.1 h).1;rw [sW] at this;exact this
 unfold BX at h
 rw [zL,List.getElem?_range hi] at h
 cases h
 exact ⟨rfl,hi⟩
def tr (p:m5) (cZ:List (List sb)):Prop:=(cZ.length:Int)≤p.2.1∧∀l∈cZ,l.length≤64∧∀c∈l,0≤c.2.1∧0≤c.2.2.1∧0≤c.2.2.2.1
def ws0 (p:m5) (cZ:List (List sb)) (b:Nat):WS:=⟨[],0,BX cZ b p.2.1.toNat,List.replicate p.2.1.toNat [0,0,0,0]⟩
def zm (p:m5) (cZ:List (List sb)) (c7:T7) (d0:T0) (d7:T2) (r:(Option Nat×(Int×Unit))×(T0×(T1×(T2×(T3×(T4×(T5×(T6×(T2×(T9×Unit)))))))))):Prop:=
 r.1.1=some d0.length∧r.1.2.1=0∧∃C:WC,C.wi=d0.length∧C.ts.length=p.2.1.toNat∧WI 0 C (ws0 p cZ d7.length) r.2.2.2.2.2.2.1 (r.2.1,(r.2.2.1,(r.2.2.2.1,(r.2.2.2.2.1,(r.2.2.2.2.2.1,(r.2.2.2.2.2.2.2.1,(c7,(r.2.2.2.2.2.2.2.2.1,(r.2.2.2.2.2.2.2.2.2.1,())))))))))
set_option maxHeartbeats 2000000 in
theorem L4 {p:m5} (hp:eQ p=true) {je:List (List oU)} (hf:iQ je) {cZ:List (List sb)} (hq:tr p cZ) (c7:T7) (d0:T0) (d1:T1) (d2:T2) (d3:T3) (d4:T4) (d5:T5) (d6:T6) (d7:T2) (d9:T9) :
  Ok (g.iK p je cZ c7 d0 d1 d2 d3 d4 d5 d6 d7 d9) (zm p cZ c7 d0 d7):=by
 have XK:=gu.1 hp
 have hf8:=hf.1
 obtain ⟨q1,q2⟩:=hq
 unfold g.iK
 refine .oi (fun _=>True) (fun s _=>?_) fun kk kJ=>.fI (dD p) (.br (fun e=>?_) fun _=>.fI (vX hf) (.br (fun e=>absurd e (by decide)) fun _=>.br (fun e=>?_) fun _=>?_))
 rotate_left
 ·have e:af (eQ p)=true:=e
  rw [hp] at e;cases e
 ·have:=d_.1 e
  rw [eH] at this;omega
 ·refine .loop (fun m s=>∃k:Nat,s.1.1=(k:Int)∧k+m=cZ.length) (fun m s gg hI ih=>?_) (N:=cZ.length) (by unfold lu;omega) ⟨0,rfl,by omega⟩
  obtain ⟨k,h1,h2⟩:=hI
  unfold g.jB
  rw [eH,h1]
  refine .br (fun hb=>?_) fun _=>kJ _ trivial
  have hb:=d_.1 hb
  have ek:nN (k:Int)=k:=rfl
  refine .gd (by rw [bH];omega) (.gd (by rw [bQ,aL,ek];omega) (.br (fun e=>?_) fun _=>ih (m-1) _ (by omega) ⟨k+1,?_,by omega⟩))
  ·have e:=d_.1 e
   rw [eH,ek,fk (show k<cZ.length by omega)] at e
   have:=(q2 _ (List.getElem_mem (show k<cZ.length by omega))).1
   omega
  ·show ae .i64 (k:Int) 1=_;rw [a_ (by omega)];rfl
 refine .bd (ua hp d1 d2 d3 d4) fun v hv=>?_
 obtain ⟨v1,v2,⟨ma,v3⟩,v4⟩:=hv
 refine .gJ v1 (.gJ v2 ?_)
 refine .loop (fun m s=>∃(k:Nat) (fo:Option Nat),s.1.1=(k:Int)∧k+m=je.length∧s.2.2.2.2.1=cat d0 [(p,(fo,(some d1.length,(some d3.length,(none,(none,0))))))]∧((fo=none∧k=0)∨∃jf,fo=some jf∧aZ s.2.2.2.2.2.1 jf=some (je.take k))) (fun m s gg hI ih=>?_) (N:=je.length) (by unfold lu;omega) ⟨0,none,rfl,by omega,rfl,.inl ⟨rfl,rfl⟩⟩
 obtain ⟨k,fo,h1,h2,h3,h4⟩:=hI
 unfold g.dA
 rw [eH,h1,h3]
 simp only [Eo,Em]
 refine .br (fun hb=>?_) fun hb=>?_
 ·have hb:=d_.1 hb
  have ek:nN (k:Int)=k:=rfl
  have hk:k<je.length:=by omega
  have en:nth [] je (nN (k:Int))=je[k]:=by rw [ek];exact fk hk
  have pT:(je[k]).length≤100:=by have:=(hf.2 _ (List.getElem_mem hk)).1;omega
  have hi:ae .i64 (k:Int) 1=((k+1:Nat):Int):=by rw [a_ (by omega)];rfl
  rw [en]
  refine .gd (by rw [bH];omega) (.gd (by rw [bQ,aL,ek];exact hk) ?_)
  rcases h4 with ⟨rfl,rfl⟩ | ⟨jf,rfl,hj⟩
  ·refine .Ai rfl (.fI (JW pT) (.gd (by rw [db,aL];show 1≤_;omega) (ih (m-1) _ (by omega) ⟨1,some (len s.2.2.2.2.2.1),hi,by omega,rfl,.inr ⟨_,rfl,?_⟩⟩)))
   show aZ (cat _ _) _=_
   rw [show (len s.2.2.2.2.2.1)=List.length s.2.2.2.2.2.1 from rfl,gH]
   congr 1
   rw [List.take_succ_eq_append_getElem hk];rfl
  ·refine .gJ rfl (.fI (JW pT) (.fI hj (.gd ?_ (.gd (by rw [bQ,aL];exact oZ hj) (ih (m-1) _ (by omega) ⟨k+1,some (len (aY s.2.2.2.2.2.1 jf none)),hi,by omega,rfl,.inr ⟨_,rfl,?_⟩⟩)))))
   ·rw [db];show len (je.take k)+1≤_;rw [aL,List.length_take];omega
   ·show aZ (cat _ _) _=_
    rw [show (len (aY s.2.2.2.2.2.1 jf none))=List.length (aY s.2.2.2.2.2.1 jf none) from rfl,gH]
    congr 1
    rw [List.take_succ_eq_append_getElem hk];rfl
 have hb:=kr.1 hb
 have hk:k=je.length:=by omega
 have hF:ER fo s.2.2.2.2.2.1:=by
  refine ⟨je,hf.ok,?_⟩
  rcases h4 with ⟨rfl,h0⟩ | ⟨jf,rfl,hj⟩
  ·exact .inl ⟨rfl,zZ (by omega)⟩
  ·rw [hk,List.take_length] at hj
   exact .inr ⟨jf,rfl,hj⟩
 clear ih hb h4
 have hT:∃n:Nat,p.2.1=(n:Int)∧1≤n∧n≤4:=⟨p.2.1.toNat,by omega,by omega,by omega⟩
 obtain ⟨nt,KR,n1,n4⟩:=hT
 refine .loop (fun m z=>∃(i:Nat) (UE:Option Nat),z.1.1=(i:Int)∧i+m=nt∧z.2.2.2.2.1=cat d0 [(p,(fo,(some d1.length,(some d3.length,(UE,(none,0))))))]∧z.2.2.2.2.2.2.1=d6++BX cZ d7.length i∧z.2.2.2.2.2.2.2.1=d7++List.replicate i (some [0,0,0,0])∧((UE=none∧i=0)∨∃th,UE=some th∧aZ z.2.2.2.2.2.1 th=some ((ids d6.length i).map some))) (fun m z gg hI ih=>?_) (N:=nt) (by unfold lu;omega) ⟨0,none,rfl,by omega,rfl,by show d6=d6++[];simp,by show d7=d7++[];simp,.inl ⟨rfl,rfl⟩⟩
 obtain ⟨i,UE,i1,i2,i3,i4,i5,i6⟩:=hI
 unfold g.jC
 rw [i1,i3,KR]
 simp only [Eo,Em]
 have e6:len z.2.2.2.2.2.2.1=d6.length+i:=by rw [i4,aL,zY,sW]
 have e7:len z.2.2.2.2.2.2.2.1=d7.length+i:=by rw [i5,aL,zY,List.length_replicate]
 refine .br (fun hb=>?_) fun hb=>.some ?_
 ·have hb:=d_.1 hb
  have hi:ae .i64 (i:Int) 1=((i+1:Nat):Int):=by rw [a_ (by omega)];rfl
  refine .oi (fun y=>y.2.2.2.2.1=d6++BX cZ d7.length (i+1)) (fun y hy=>?_) fun kk kJ=>.br (fun e=>?_) fun e=>kJ _ ?_
  ·have key:∀(T5':T5) (j:Nat),aZ T5' j=some ((ids d6.length (i+1)).map some)→Ok (gg (((ae .i64 (i:Int) 1),()),((),((),((),(cat d0 [(p,(fo,(some d1.length,(some d3.length,(some j,(none,0))))))],(T5',(y.2.2.2.2.1,(cat z.2.2.2.2.2.2.2.1 [some (rep (α:=Int) 4 0)],()))))))))) (zm p cZ c7 d0 d7):=by
    intro T5' j hT5
    refine ih (m-1) _ (by omega) ⟨i+1,some j,hi,by omega,rfl,hy,?_,.inr ⟨j,rfl,hT5⟩⟩
    show cat _ _=_
    rw [i5,List.replicate_succ',←List.append_assoc];rfl
   rcases i6 with ⟨rfl,rfl⟩ | ⟨th,rfl,Vd⟩
   ·refine .Ai rfl (.gd (by rw [db,aL];show 1≤_;omega) (key _ (len z.2.2.2.2.2.1) ?_))
    rw [show (len z.2.2.2.2.2.1)=List.length z.2.2.2.2.2.1 from rfl,gH,e6]
    rfl
   ·refine .gJ rfl (.fI Vd (.gd ?_ (.gd (by rw [bQ,aL];exact oZ Vd) (key _ (len (aY z.2.2.2.2.2.1 th none)) ?_))))
    ·rw [db];show len ((ids d6.length i).map some)+1≤_;rw [aL,zH,mP];omega
    ·rw [show (len (aY z.2.2.2.2.2.1 th none))=List.length (aY z.2.2.2.2.2.1 th none) from rfl,gH,e6,Dm,List.map_append]
     rfl
  ·have e:=d_.1 e
   rw [eH] at e
   have ek:nN (i:Int)=i:=rfl
   have Vn:i<cZ.length:=by omega
   have pT:(cZ[i]).length≤100:=by have:=(q2 _ (List.getElem_mem Vn)).1;omega
   refine .gd (by rw [bH];omega) (.gd (by rw [bQ,aL,ek];exact Vn) ?_)
   rw [ek,fk Vn]
   refine .fI (UA pT) (kJ _ ?_)
   show cat _ _=_
   rw [i4,e7,uO,←List.append_assoc]
   unfold OA
   rw [zA,zD Vn]
   rfl
  ·have e:=kr.1 e
   rw [eH] at e
   show cat _ _=_
   rw [i4,e7,uO,←List.append_assoc]
   unfold OA
   rw [zA,zb (by omega)]
   rfl
 ·have hb:=kr.1 hb
  have hi:i=nt:=by omega
  subst hi
  rcases i6 with ⟨_,h0⟩ | ⟨th,rfl,Vd⟩
  ·omega
  have en:p.2.1.toNat=i:=by omega
  refine ⟨rfl,rfl,⟨d0.length,d1.length,d3.length,th,d2.length,ma,p,fo,ids d6.length i,ids d7.length i⟩,rfl,by rw [mP,en],?_⟩
  unfold ws0
  rw [en]
  refine ⟨⟨none,?_,.inl ⟨rfl,rfl⟩⟩,v3,v4,hF,by show p.1≤100;omega,Vd,by rw [mP];exact n4,by rw [sW,mP],by rw [List.length_replicate,mP],fun a b x h h'=>by have:=tR h;have:=tR h';omega,fun a b x h h'=>by have:=tR h;have:=tR h';omega,fun o ho=>(nomatch ho),?_⟩
  ·show (d0++[_])[d0.length]?=_;simp
  ·intro k t hk0
   dsimp only at hk0 ⊢
   obtain ⟨rfl,hk⟩:=J2 hk0
   refine ⟨d6.length+k,d7.length+k,[0,0,0,0],yM hk,?_,rfl,yM hk,by rw [List.getElem?_replicate,if_pos hk],?_,rfl,?_⟩
   ·rw [i4,zJ (Nat.le_add_right _ _),Nat.add_sub_cancel_left]
    unfold BX
    rw [zL,List.getElem?_range hk];rfl
   ·rw [Cc,i5,zJ (Nat.le_add_right _ _),Nat.add_sub_cancel_left,List.getElem?_replicate,if_pos hk]
   ·have hm:∀l,cZ[k]?=some l→l∈cZ:=fun l h=>zG h
    have hg:cZ.getD k []=[]∨cZ.getD k []∈cZ:=by
     rw [zA]
     cases h:cZ[k]? with
     | none=>exact .inl rfl
     | some l=>exact .inr (hm l h)
    refine ⟨by show 0≤6;omega,?_,?_,fun h=>by cases h⟩
    ·show (cZ.getD k []).length≤64
     rcases hg with h | h
     ·rw [h];exact Nat.zero_le _
     ·exact (q2 _ h).1
    ·show ∀c∈cZ.getD k [],_
     rcases hg with h | h
     ·rw [h];intro c hc;cases hc
     ·exact (q2 _ h).2
open Go.Bm Go.oT
def ev (s:WS) (c:Int):List Int:=if 0≤c then (s.rg[c.toNat]?).getD [] else []
def eN (s:WS) (c:Int):List (Int×Bool):=if 0≤c then ((s.tl[c.toNat]?).map Th.gh).getD [] else []
section
variable {n:Nat} {C:WC} {s:WS} {c5:T5} {D:Ds}
theorem zj (H:WI n C s c5 D):g.cH C.wi D.1 D.2.1 D.2.2.1 D.2.2.2.1 D.2.2.2.2.1 c5 D.2.2.2.2.2.1 D.2.2.2.2.2.2.1 D.2.2.2.2.2.2.2.1 D.2.2.2.2.2.2.2.2.1=some (((s.st:Int),()),()):=by
 obtain ⟨oo,hw,_⟩:=H.world
 unfold g.cH
 rw [bM hw]
theorem ru (H:WI n C s c5 D) (c:Int):g.ax C.wi c D.1 D.2.1 D.2.2.1 D.2.2.2.1 D.2.2.2.2.1 c5 D.2.2.2.2.2.1 D.2.2.2.2.2.2.1 D.2.2.2.2.2.2.2.1 D.2.2.2.2.2.2.2.2.1=some ((ev s c,()),()):=by
 obtain ⟨oo,hw,_⟩:=H.world
 have e0:∀d,nth d D.1 C.wi=(C.p,(C.fo,(some C.a,(some C.gr,(some C.th,(oo,(s.st:Int))))))):=fun d=>bM hw
 have mj:=H.rows
 have hlen:zN (len (C.ts.map some))=(C.ts.length:Int):=by rw [eH,zH]
 have h4:=H.four;have h5:=H.Rd;have h6:=H.Re
 unfold g.ax
 simp only [e0]
 rw [cr,l_ mj,l_ (aP _ _ _),hlen,bV (by omega)]
 cases hb:within c 0 ((C.ts.length:Int)-1) with
 | false=>
  have hn:¬(0≤c∧c≤(C.ts.length:Int)-1):=fun h=>by rw [dJ.2 h] at hb;cases hb
  show some (([],()),())=_
  unfold ev
  by_cases h0:0≤c
  ·rw [if_pos h0,zb (by omega)];rfl
  ·rw [if_neg h0]
 | true=>
  have hb:=dJ.1 hb
  obtain ⟨k,rfl⟩:∃k:Nat,c=(k:Int):=⟨c.toNat,by omega⟩
  have hk:k<s.tl.length:=by omega
  obtain ⟨id,rr,w,a1,a2,a3,a4,a5,a6,a7,a8⟩:=H.IE k _ (zD hk)
  have KR:nth none (C.ts.map some) (nN (k:Int))=some id:=by
   show nth none (C.ts.map some) k=some id
   exact bM (by rw [zL,a1];rfl)
  refine Eq.trans (LL rfl) ?_
  rw [cr,l_ mj,oC (show bn (k:Int) by rw [bH];omega),oC (show bo (nN (k:Int)) (len (C.ts.map some)) by rw [bQ,aL,zH];show k<_;omega),l_ mj,KR,cr,bM a2,a3,cr,l_ a6]
  rw [oC (show bo 0 (len w) by rw [bQ,aL];omega),l_ a6,oC (show bt (aN 0 (len w)) 16777216 by rw [db,aL];show 0+_≤_;omega)]
  unfold ev
  rw [if_pos (by omega),zE,a5]
  rfl
theorem ln (H:WI n C s c5 D) (c:Int):g.ak C.wi c D.1 D.2.1 D.2.2.1 D.2.2.2.1 D.2.2.2.2.1 c5 D.2.2.2.2.2.1 D.2.2.2.2.2.2.1 D.2.2.2.2.2.2.2.1 D.2.2.2.2.2.2.2.2.1=some ((eN s c,()),()):=by
 obtain ⟨oo,hw,_⟩:=H.world
 have e0:∀d,nth d D.1 C.wi=(C.p,(C.fo,(some C.a,(some C.gr,(some C.th,(oo,(s.st:Int))))))):=fun d=>bM hw
 have mj:=H.rows
 have hlen:zN (len (C.ts.map some))=(C.ts.length:Int):=by rw [eH,zH]
 have h4:=H.four;have h5:=H.Rd;have h6:=H.Re
 unfold g.ak
 simp only [e0]
 rw [cr,l_ mj,l_ (aP _ _ _),hlen,bV (by omega)]
 cases hb:within c 0 ((C.ts.length:Int)-1) with
 | false=>
  have hn:¬(0≤c∧c≤(C.ts.length:Int)-1):=fun h=>by rw [dJ.2 h] at hb;cases hb
  show some (([],()),())=_
  unfold eN
  by_cases h0:0≤c
  ·rw [if_pos h0,zb (by omega)];rfl
  ·rw [if_neg h0]
 | true=>
  have hb:=dJ.1 hb
  obtain ⟨k,rfl⟩:∃k:Nat,c=(k:Int):=⟨c.toNat,by omega⟩
  have hk:k<s.tl.length:=by omega
  obtain ⟨id,rr,w,a1,a2,a3,a4,a5,a6,a7,a8⟩:=H.IE k _ (zD hk)
  have KR:nth none (C.ts.map some) (nN (k:Int))=some id:=by
   show nth none (C.ts.map some) k=some id
   exact bM (by rw [zL,a1];rfl)
  refine Eq.trans (LL rfl) ?_
  rw [cr,l_ mj,oC (show bn (k:Int) by rw [bH];omega),oC (show bo (nN (k:Int)) (len (C.ts.map some)) by rw [bQ,aL,zH];show k<_;omega),l_ mj,KR,cr,bM a2]
  have a9:=a8.gh
  rw [l_ (rA (show ((s.tl[k]).2.2.1).length≤100 by have:(Th.gh s.tl[k]).length≤6:=a9;show (Th.gh s.tl[k]).length≤100;omega))]
  unfold eN
  rw [if_pos (by omega),zE,zD hk]
  rfl
theorem UB {l:List Int} (hl:l.length≤1000000):g.cA l=some ((l,()),()):=by
 unfold g.cA
 rw [oC (show bt (aN 0 (len l)) 16777216 by rw [db,aL];show 0+_≤_;omega)]
 rfl
theorem xW (H:WI n C s c5 D) (nE:s.ops.length≤10000):Ok (g.di C.wi D.1 D.2.1 D.2.2.1 D.2.2.2.1 D.2.2.2.2.1 c5 D.2.2.2.2.2.1 D.2.2.2.2.2.2.1 D.2.2.2.2.2.2.2.1 D.2.2.2.2.2.2.2.2.1) (fun r=>r.1.1=s.ops):=by
 obtain ⟨oo,hw,XO⟩:=H.world
 have e0:∀d,nth d D.1 C.wi=(C.p,(C.fo,(some C.a,(some C.gr,(some C.th,(oo,(s.st:Int))))))):=fun d=>bM hw
 have XF:=H.said
 unfold g.di
 simp only [e0]
 refine .oi (fun z=>z.2.1.1=s.ops) (fun z hz=>?_) fun kk kJ=>?_
 ·refine .loop (fun m y=>∃i:Nat,y.1.1=(i:Int)∧i+m=s.ops.length∧y.2.1.1=s.ops) (fun m y gg hI ih=>?_) (N:=s.ops.length) (by unfold lu;omega) ⟨0,rfl,by omega,hz⟩
  obtain ⟨i,h1,h2,h3⟩:=hI
  unfold g.fR
  rw [hz,h1,h3,eH]
  refine .br (fun hb=>?_) fun hb=>.some rfl
  have hb:=d_.1 hb
  have ei:nN (i:Int)=i:=rfl
  have hi:i<s.ops.length:=by omega
  have en:∀d,nth d s.ops (nN (i:Int))=s.ops[i]:=fun d=>fk hi
  have hx:ae .i64 (i:Int) 1=((i+1:Nat):Int):=by rw [a_ (by omega)];rfl
  have hg:bo (nN (i:Int)) (len s.ops):=by rw [bQ,aL,ei];exact hi
  simp only [en]
  have hs:=XF _ (List.getElem_mem hi)
  refine .gd (by rw [bH];omega) (.gd hg (.fI (UB (by omega)) (.gd (by rw [bH];omega) (.gd hg (ih (m-1) _ (by omega) ⟨i+1,hx,by omega,?_⟩)))))
  dsimp only
  rw [x6 (show s.ops[nN (i:Int)]?=some s.ops[i] from zD hi)]
  exact List.set_getElem_self hi
 ·rcases XO with ⟨rfl,rS⟩ | ⟨jo,rfl,hj⟩
  ·exact .Ai rfl (kJ _ rS.symm)
  ·exact .gJ rfl (.fI hj (.gd (by rw [db,aL];omega) (kJ _ rfl)))
end
theorem EF {a b:List Int} (hl:a.length≤1000) (Jw:b.length≤1000):Ok (g.av a b) (fun r=>a=b→r.1.1=true):=by
 unfold g.av
 rw [eH,eH]
 refine .br (fun e=>.some fun h=>?_) fun e=>?_
 ·have e:=cu.1 (iv.1 e);rw [h] at e;exact absurd rfl e
 have e:=cQ.1 (g6.1 e)
 refine .loop (fun m y=>∃i:Nat,y.1.1=(i:Int)∧i+m=a.length) (fun m y gg hI ih=>?_) (N:=a.length) (by unfold lu;omega) ⟨0,rfl,by omega⟩
 obtain ⟨i,h1,h2⟩:=hI
 unfold g.iF
 rw [h1,eH]
 refine .br (fun hb=>?_) fun hb=>.some fun _=>rfl
 have hb:=d_.1 hb
 have ei:nN (i:Int)=i:=rfl
 have hx:ae .i64 (i:Int) 1=((i+1:Nat):Int):=by rw [a_ (by omega)];rfl
 refine .gd (by rw [bH];omega) (.gd (by rw [bQ,aL,ei];omega) (.gd (by rw [bH];omega) (.gd (by rw [bQ,aL,ei];omega) (.br (fun e=>.some fun h=>?_) fun _=>ih (m-1) _ (by omega) ⟨i+1,hx,by omega⟩))))
 have e:=cu.1 (iv.1 e)
 rw [h] at e;exact absurd rfl e
theorem HF {a b:List (Int×Bool)} (hl:a.length≤1000) (Jw:b.length≤1000):Ok (g.ay a b) (fun r=>a=b→r.1.1=true):=by
 unfold g.ay
 rw [eH,eH]
 refine .br (fun e=>.some fun h=>?_) fun e=>?_
 ·have e:=cu.1 (iv.1 e);rw [h] at e;exact absurd rfl e
 have e:=cQ.1 (g6.1 e)
 refine .loop (fun m y=>∃i:Nat,y.1.1=(i:Int)∧i+m=a.length) (fun m y gg hI ih=>?_) (N:=a.length) (by unfold lu;omega) ⟨0,rfl,by omega⟩
 obtain ⟨i,h1,h2⟩:=hI
 unfold g.i_
 rw [h1,eH]
 refine .br (fun hb=>?_) fun hb=>.some fun _=>rfl
 have hb:=d_.1 hb
 have ei:nN (i:Int)=i:=rfl
 have hx:ae .i64 (i:Int) 1=((i+1:Nat):Int):=by rw [a_ (by omega)];rfl
 refine .gd (by rw [bH];omega) (.gd (by rw [bQ,aL,ei];omega) (.gd (by rw [bH];omega) (.gd (by rw [bQ,aL,ei];omega) (.br (fun e=>.some fun h=>?_) fun _=>ih (m-1) _ (by omega) ⟨i+1,hx,by omega⟩))))
 exfalso
 have e:=iv.1 e
 rw [h] at e
 generalize nth (0,false) b (nN (i:Int))=x at e
 obtain ⟨x1,x2⟩:=x
 cases x2<;>simp [ll,po,ah] at e
open Go.Bm
set_option maxRecDepth 1000000
set_option maxHeartbeats 0
def sg8:dz:=⟨[(true,(.pair (.pair (.int .i64) (.pair (.int .i64) (.pair (.int .i64) (.int .i64)))) (.pair (.aO (.aO (.pair (.int .u8) (.pair (.int .i64) (.int .i64))))) (.aO (.aO (.pair (.int .u8) (.pair (.int .u8) (.pair (.int .u8) (.pair (.int .u8) (.pair (.int .i64) (.pair (.int .i64) (.int .i64))))))))))))],[(true,(.pair (.int .i64) (.pair (.int .i64) (.pair (.int .i64) (.int .i64))))),(false,(.aO (.aO (.pair (.int .u8) (.pair (.int .i64) (.int .i64)))))),(false,(.aO (.aO (.pair (.int .u8) (.pair (.int .u8) (.pair (.int .u8) (.pair (.int .u8) (.pair (.int .i64) (.pair (.int .i64) (.int .i64))))))))))],[],[]⟩
def g.jA (a0:((Int×U4)×((List (List U4))×U8))) (v0:(((Int×U4)×Unit)×Unit)) (k:(((Int×Unit)×((U8×Unit)×pB))→Mu)) (s:((Int×Unit)×((U8×Unit)×pB))):Mu:=(br (bb s.1.1 (zN (len s.2.1.1))) (gd (bn s.1.1) (gd (bo (nN s.1.1) (len s.2.1.1)) (gd (bn s.1.1) (gd (bo (nN s.1.1) (len s.2.1.1)) (gd (bn (lK (zN (len (nth [] s.2.1.1 (nN s.1.1)))) 20)) (gd (bt 0 (nN (lK (zN (len (nth [] s.2.1.1 (nN s.1.1)))) 20))) (gd (bt (nN (lK (zN (len (nth [] s.2.1.1 (nN s.1.1)))) 20)) (len (nth [] s.2.1.1 (nN s.1.1)))) (gd (bn s.1.1) (gd (bo (nN s.1.1) (len s.2.1.1)) (k (((ae .i64 s.1.1 1),()),(((ao [] s.2.1.1 (nN s.1.1) (fun r0=>(tk (aC (nN (lK (zN (len r0)) 20)) 0) (dr 0 r0)))),()),((),((),())))))))))))))) (bd (g.gX a0.2.1) (fun p1=>(some ((v0.1.1,(p1.1.1,(s.2.1.1,()))),())))))
def g.jz (a0:((Int×U4)×((List (List U4))×U8))) (v0:(((Int×U4)×Unit)×Unit)) (v1:(Unit×((U8×Unit)×pB))→Mu) (k:(((Int×Unit)×((U8×Unit)×pB))→Mu)) (s:((Int×Unit)×((U8×Unit)×pB))):Mu:=(jn (fun (k0:(Unit×U2)→_)=>(br (bb s.1.1 (zN (len a0.2.2))) (br (bb s.1.1 v0.1.1.2.1) (k0 ((),((),((),((),()))))) (v1 ((),((s.2.1.1,()),((),((),())))))) (v1 ((),((s.2.1.1,()),((),((),()))))))) (fun (s1:(Unit×U2))=>(gd (bn s.1.1) (gd (bo (nN s.1.1) (len a0.2.2)) (gd (bn s.1.1) (gd (bo (nN s.1.1) (len a0.2.2)) (gd (bn (lK (zN (len (nth [] a0.2.2 (nN s.1.1)))) 64)) (gd (bt 0 (nN (lK (zN (len (nth [] a0.2.2 (nN s.1.1)))) 64))) (gd (bt (nN (lK (zN (len (nth [] a0.2.2 (nN s.1.1)))) 64)) (len (nth [] a0.2.2 (nN s.1.1)))) (gd (bt (aN (len s.2.1.1) (len [(tk (aC (nN (lK (zN (len (nth [] a0.2.2 (nN s.1.1)))) 64)) 0) (dr 0 (nth [] a0.2.2 (nN s.1.1))))])) 16777216) (k (((ae .i64 s.1.1 1),()),(((cat s.2.1.1 [(tk (aC (nN (lK (zN (len (nth [] a0.2.2 (nN s.1.1)))) 64)) 0) (dr 0 (nth [] a0.2.2 (nN s.1.1))))]),()),((),((),())))))))))))))))
def g.gZ (a0:((Int×U4)×((List (List U4))×U8))):Mu:=(bd (g.gY a0.1) (fun p0=>(jn (fun (k1:(Unit×((U8×Unit)×pB))→_)=>(loop (g.jz a0 p0 k1) ((0,()),(([],()),((),((),())))))) (fun (s6:(Unit×((U8×Unit)×pB)))=>(loop (g.jA a0 p0) ((0,()),((s6.2.1.1,()),((),((),())))))))))
def F8:Plain sg8:=fun x c d=>g.gZ x.1
theorem ct8:bG Tryz.prog 8 sg8 F8:=bW (aw aau (aw aat (aQ))) fun x c d=>by kernel_rfl
open Go.Bm
def sg5:dz:=⟨[(true,(.pair (.pair (.int .i64) (.pair (.int .i64) (.pair (.int .i64) (.int .i64)))) (.pair (.aO (.aO (.pair (.int .u8) (.pair (.int .i64) (.int .i64))))) (.aO (.aO (.pair (.int .u8) (.pair (.int .u8) (.pair (.int .u8) (.pair (.int .u8) (.pair (.int .i64) (.pair (.int .i64) (.int .i64)))))))))))),(false,(.aO (.int .u8)))],[(false,.bool)],[],[(0,R0),(1,R1),(2,R2),(3,R3),(4,R4),(5,R5),(6,R6),(7,R7),(8,R8),(9,R9)]⟩
def g.fh (a1:(List Int)) (v0:(((List U3)×Unit)×Unit)) (v1:(((List U3)×Unit)×Unit)) (v2:Mv) (v3:((Bool×(Int×Unit))×(T0×(T1×(T2×(T3×(T4×(T6×(T7×(T2×(T9×Unit))))))))))) (v4:U6) (v5:Nat) (v6:((Int×Unit)×Unit)) (v7:(uy×Unit)) (v8:((lR×Unit)×Unit)) (v9:(uy×Unit)) (v10:((lR×Unit)×Unit)) (v11:(uy×Unit)) (Bs:((lR×Unit)×Unit)) (nM:(uy×Unit)) (nL:((lR×Unit)×Unit)) (fE:Mv→Fm) (k:((kl×U2)→Fm)) (s:(kl×U2)):Fm:=(br (bb s.1.2.1 (zN (len v0.1.1))) (jn (fun (k0:iU→_)=>(br (dq (zN (len v1.1.1)) s.1.2.1) (k0 ((true,()),((),((),((),()))))) (gd (bn s.1.2.1) (gd (bo (nN s.1.2.1) (len v1.1.1)) (gd (bn s.1.2.1) (gd (bo (nN s.1.2.1) (len v0.1.1)) (k0 (((af (ah (nth mS v1.1.1 (nN s.1.2.1)).2.2.2.2.1 (nth mS v0.1.1 (nN s.1.2.1)).2.2.2.2.1)),()),((),((),((),()))))))))))) (fun (s1:iU)=>(br s1.1.1 (gd (bn s.1.2.1) (gd (bo (nN s.1.2.1) (len v0.1.1)) (br (af (ah (nth mS v0.1.1 (nN s.1.2.1)).1 (bJ (cl .i64 (nth 0 a1 (nN v2.1.1))) 5))) (some ((false,()),(v3.2.1,(v3.2.2.1,(v3.2.2.2.1,(v3.2.2.2.2.1,(v3.2.2.2.2.2.1,(v4.2.2.2.2.2.2.1,v3.2.2.2.2.2.2)))))))) (gd (bn s.1.2.1) (gd (bo (nN s.1.2.1) (len v0.1.1)) (br (dq 0 (nth mS v0.1.1 (nN s.1.2.1)).2.2.2.2.1) (k (((ae .i64 s.1.1 1),((ae .i64 s.1.2.1 1),())),((),((),((),()))))) (k ((s.1.1,((ae .i64 s.1.2.1 1),())),((),((),((),()))))))))))) (k ((s.1.1,((ae .i64 s.1.2.1 1),())),((),((),((),())))))))) (jn (fun (k2:(Unit×U2)→_)=>(br (af (ah v3.1.2.1 0)) (bd (g.cH v5 v3.2.1 v3.2.2.1 v3.2.2.2.1 v3.2.2.2.2.1 v3.2.2.2.2.2.1 v4.2.2.2.2.2.2.1 v3.2.2.2.2.2.2.1 v3.2.2.2.2.2.2.2.1 v3.2.2.2.2.2.2.2.2.1 v3.2.2.2.2.2.2.2.2.2.1) (fun p3=>(br (af (ah p3.1.1 v6.1.1)) (some ((false,()),(v3.2.1,(v3.2.2.1,(v3.2.2.2.1,(v3.2.2.2.2.1,(v3.2.2.2.2.2.1,(v4.2.2.2.2.2.2.1,v3.2.2.2.2.2.2)))))))) (br (af (ah (zN (len v0.1.1)) (zN (len v1.1.1)))) (some ((false,()),(v3.2.1,(v3.2.2.1,(v3.2.2.2.1,(v3.2.2.2.2.1,(v3.2.2.2.2.2.1,(v4.2.2.2.2.2.2.1,v3.2.2.2.2.2.2)))))))) (br (bb 0 s.1.1) (some ((false,()),(v3.2.1,(v3.2.2.1,(v3.2.2.2.1,(v3.2.2.2.2.1,(v3.2.2.2.2.2.1,(v4.2.2.2.2.2.2.1,v3.2.2.2.2.2.2)))))))) (br (ah v3.1.2.1 0) (bd (g.cH v5 v3.2.1 v3.2.2.1 v3.2.2.2.1 v3.2.2.2.2.1 v3.2.2.2.2.2.1 v4.2.2.2.2.2.2.1 v3.2.2.2.2.2.2.1 v3.2.2.2.2.2.2.2.1 v3.2.2.2.2.2.2.2.2.1 v3.2.2.2.2.2.2.2.2.2.1) (fun p4=>(br (af (ah p4.1.1 (ae .i64 v6.1.1 1))) (some ((false,()),(v3.2.1,(v3.2.2.1,(v3.2.2.2.1,(v3.2.2.2.2.1,(v3.2.2.2.2.2.1,(v4.2.2.2.2.2.2.1,v3.2.2.2.2.2.2)))))))) (br (bb 1 s.1.1) (some ((false,()),(v3.2.1,(v3.2.2.1,(v3.2.2.2.1,(v3.2.2.2.2.1,(v3.2.2.2.2.2.1,(v4.2.2.2.2.2.2.1,v3.2.2.2.2.2.2)))))))) (k2 ((),((),((),((),()))))))))) (k2 ((),((),((),((),()))))))))))) (br (ah v3.1.2.1 0) (bd (g.cH v5 v3.2.1 v3.2.2.1 v3.2.2.2.1 v3.2.2.2.2.1 v3.2.2.2.2.2.1 v4.2.2.2.2.2.2.1 v3.2.2.2.2.2.2.1 v3.2.2.2.2.2.2.2.1 v3.2.2.2.2.2.2.2.2.1 v3.2.2.2.2.2.2.2.2.2.1) (fun p5=>(br (af (ah p5.1.1 (ae .i64 v6.1.1 1))) (some ((false,()),(v3.2.1,(v3.2.2.1,(v3.2.2.2.1,(v3.2.2.2.2.1,(v3.2.2.2.2.2.1,(v4.2.2.2.2.2.2.1,v3.2.2.2.2.2.2)))))))) (br (bb 1 s.1.1) (some ((false,()),(v3.2.1,(v3.2.2.1,(v3.2.2.2.1,(v3.2.2.2.2.1,(v3.2.2.2.2.2.1,(v4.2.2.2.2.2.2.1,v3.2.2.2.2.2.2)))))))) (k2 ((),((),((),((),()))))))))) (k2 ((),((),((),((),())))))))) (fun (s6:(Unit×U2))=>(bd (g.ax v5 0 v3.2.1 v3.2.2.1 v3.2.2.2.1 v3.2.2.2.2.1 v3.2.2.2.2.2.1 v4.2.2.2.2.2.2.1 v3.2.2.2.2.2.2.1 v3.2.2.2.2.2.2.2.1 v3.2.2.2.2.2.2.2.2.1 v3.2.2.2.2.2.2.2.2.2.1) (fun p7=>(bd (g.av (cat [] v7.1.1) p7.1.1) (fun p8=>(bd (g.ak v5 0 v3.2.1 v3.2.2.1 v3.2.2.2.1 v3.2.2.2.2.1 v3.2.2.2.2.2.1 v4.2.2.2.2.2.2.1 v3.2.2.2.2.2.2.1 v3.2.2.2.2.2.2.2.1 v3.2.2.2.2.2.2.2.2.1 v3.2.2.2.2.2.2.2.2.2.1) (fun p9=>(bd (g.ay (cat [] v8.1.1) p9.1.1) (fun fm=>(br (af (ah 0 (bJ (cl .i64 (nth 0 a1 (nN v2.1.1))) 5))) (br (af p8.1.1) (some ((false,()),(v3.2.1,(v3.2.2.1,(v3.2.2.2.1,(v3.2.2.2.2.1,(v3.2.2.2.2.2.1,(v4.2.2.2.2.2.2.1,v3.2.2.2.2.2.2)))))))) (br (af fm.1.1) (some ((false,()),(v3.2.1,(v3.2.2.1,(v3.2.2.2.1,(v3.2.2.2.2.1,(v3.2.2.2.2.2.1,(v4.2.2.2.2.2.2.1,v3.2.2.2.2.2.2)))))))) (bd (g.ax v5 1 v3.2.1 v3.2.2.1 v3.2.2.2.1 v3.2.2.2.2.1 v3.2.2.2.2.2.1 v4.2.2.2.2.2.2.1 v3.2.2.2.2.2.2.1 v3.2.2.2.2.2.2.2.1 v3.2.2.2.2.2.2.2.2.1 v3.2.2.2.2.2.2.2.2.2.1) (fun j7=>(bd (g.av (cat [] v9.1.1) j7.1.1) (fun b9=>(bd (g.ak v5 1 v3.2.1 v3.2.2.1 v3.2.2.2.1 v3.2.2.2.2.1 v3.2.2.2.2.2.1 v4.2.2.2.2.2.2.1 v3.2.2.2.2.2.2.1 v3.2.2.2.2.2.2.2.1 v3.2.2.2.2.2.2.2.2.1 v3.2.2.2.2.2.2.2.2.2.1) (fun cm=>(bd (g.ay (cat [] v10.1.1) cm.1.1) (fun jE=>(br (af (ah 1 (bJ (cl .i64 (nth 0 a1 (nN v2.1.1))) 5))) (br (af b9.1.1) (some ((false,()),(v3.2.1,(v3.2.2.1,(v3.2.2.2.1,(v3.2.2.2.2.1,(v3.2.2.2.2.2.1,(v4.2.2.2.2.2.2.1,v3.2.2.2.2.2.2)))))))) (br (af jE.1.1) (some ((false,()),(v3.2.1,(v3.2.2.1,(v3.2.2.2.1,(v3.2.2.2.2.1,(v3.2.2.2.2.2.1,(v4.2.2.2.2.2.2.1,v3.2.2.2.2.2.2)))))))) (bd (g.ax v5 2 v3.2.1 v3.2.2.1 v3.2.2.2.1 v3.2.2.2.2.1 v3.2.2.2.2.2.1 v4.2.2.2.2.2.2.1 v3.2.2.2.2.2.2.1 v3.2.2.2.2.2.2.2.1 v3.2.2.2.2.2.2.2.2.1 v3.2.2.2.2.2.2.2.2.2.1) (fun dx=>(bd (g.av (cat [] v11.1.1) dx.1.1) (fun eO=>(bd (g.ak v5 2 v3.2.1 v3.2.2.1 v3.2.2.2.1 v3.2.2.2.2.1 v3.2.2.2.2.2.1 v4.2.2.2.2.2.2.1 v3.2.2.2.2.2.2.1 v3.2.2.2.2.2.2.2.1 v3.2.2.2.2.2.2.2.2.1 v3.2.2.2.2.2.2.2.2.2.1) (fun fX=>(bd (g.ay (cat [] Bs.1.1) fX.1.1) (fun fH=>(br (af (ah 2 (bJ (cl .i64 (nth 0 a1 (nN v2.1.1))) 5))) (br (af eO.1.1) (some ((false,()),(v3.2.1,(v3.2.2.1,(v3.2.2.2.1,(v3.2.2.2.2.1,(v3.2.2.2.2.2.1,(v4.2.2.2.2.2.2.1,v3.2.2.2.2.2.2)))))))) (br (af fH.1.1) (some ((false,()),(v3.2.1,(v3.2.2.1,(v3.2.2.2.1,(v3.2.2.2.2.1,(v3.2.2.2.2.2.1,(v4.2.2.2.2.2.2.1,v3.2.2.2.2.2.2)))))))) (bd (g.ax v5 3 v3.2.1 v3.2.2.1 v3.2.2.2.1 v3.2.2.2.2.1 v3.2.2.2.2.2.1 v4.2.2.2.2.2.2.1 v3.2.2.2.2.2.2.1 v3.2.2.2.2.2.2.2.1 v3.2.2.2.2.2.2.2.2.1 v3.2.2.2.2.2.2.2.2.2.1) (fun kF=>(bd (g.av (cat [] nM.1.1) kF.1.1) (fun dV=>(bd (g.ak v5 3 v3.2.1 v3.2.2.1 v3.2.2.2.1 v3.2.2.2.2.1 v3.2.2.2.2.2.1 v4.2.2.2.2.2.2.1 v3.2.2.2.2.2.2.1 v3.2.2.2.2.2.2.2.1 v3.2.2.2.2.2.2.2.2.1 v3.2.2.2.2.2.2.2.2.2.1) (fun l7=>(bd (g.ay (cat [] nL.1.1) l7.1.1) (fun iG=>(br (af (ah 3 (bJ (cl .i64 (nth 0 a1 (nN v2.1.1))) 5))) (br (af dV.1.1) (some ((false,()),(v3.2.1,(v3.2.2.1,(v3.2.2.2.1,(v3.2.2.2.2.1,(v3.2.2.2.2.2.1,(v4.2.2.2.2.2.2.1,v3.2.2.2.2.2.2)))))))) (br (af iG.1.1) (some ((false,()),(v3.2.1,(v3.2.2.1,(v3.2.2.2.1,(v3.2.2.2.2.1,(v3.2.2.2.2.2.1,(v4.2.2.2.2.2.2.1,v3.2.2.2.2.2.2)))))))) (fE (((ae .i64 v2.1.1 1),()),((),((),((),v3.2))))))) (br (ah s.1.1 0) (br (af dV.1.1) (some ((false,()),(v3.2.1,(v3.2.2.1,(v3.2.2.2.1,(v3.2.2.2.2.1,(v3.2.2.2.2.2.1,(v4.2.2.2.2.2.2.1,v3.2.2.2.2.2.2)))))))) (br (af iG.1.1) (some ((false,()),(v3.2.1,(v3.2.2.1,(v3.2.2.2.1,(v3.2.2.2.2.1,(v3.2.2.2.2.2.1,(v4.2.2.2.2.2.2.1,v3.2.2.2.2.2.2)))))))) (fE (((ae .i64 v2.1.1 1),()),((),((),((),v3.2))))))) (fE (((ae .i64 v2.1.1 1),()),((),((),((),v3.2))))))))))))))))) (br (ah s.1.1 0) (br (af eO.1.1) (some ((false,()),(v3.2.1,(v3.2.2.1,(v3.2.2.2.1,(v3.2.2.2.2.1,(v3.2.2.2.2.2.1,(v4.2.2.2.2.2.2.1,v3.2.2.2.2.2.2)))))))) (br (af fH.1.1) (some ((false,()),(v3.2.1,(v3.2.2.1,(v3.2.2.2.1,(v3.2.2.2.2.1,(v3.2.2.2.2.2.1,(v4.2.2.2.2.2.2.1,v3.2.2.2.2.2.2)))))))) (bd (g.ax v5 3 v3.2.1 v3.2.2.1 v3.2.2.2.1 v3.2.2.2.2.1 v3.2.2.2.2.2.1 v4.2.2.2.2.2.2.1 v3.2.2.2.2.2.2.1 v3.2.2.2.2.2.2.2.1 v3.2.2.2.2.2.2.2.2.1 v3.2.2.2.2.2.2.2.2.2.1) (fun fy=>(bd (g.av (cat [] nM.1.1) fy.1.1) (fun jm=>(bd (g.ak v5 3 v3.2.1 v3.2.2.1 v3.2.2.2.1 v3.2.2.2.2.1 v3.2.2.2.2.2.1 v4.2.2.2.2.2.2.1 v3.2.2.2.2.2.2.1 v3.2.2.2.2.2.2.2.1 v3.2.2.2.2.2.2.2.2.1 v3.2.2.2.2.2.2.2.2.2.1) (fun fj=>(bd (g.ay (cat [] nL.1.1) fj.1.1) (fun eL=>(br (af (ah 3 (bJ (cl .i64 (nth 0 a1 (nN v2.1.1))) 5))) (br (af jm.1.1) (some ((false,()),(v3.2.1,(v3.2.2.1,(v3.2.2.2.1,(v3.2.2.2.2.1,(v3.2.2.2.2.2.1,(v4.2.2.2.2.2.2.1,v3.2.2.2.2.2.2)))))))) (br (af eL.1.1) (some ((false,()),(v3.2.1,(v3.2.2.1,(v3.2.2.2.1,(v3.2.2.2.2.1,(v3.2.2.2.2.2.1,(v4.2.2.2.2.2.2.1,v3.2.2.2.2.2.2)))))))) (fE (((ae .i64 v2.1.1 1),()),((),((),((),v3.2))))))) (br (ah s.1.1 0) (br (af jm.1.1) (some ((false,()),(v3.2.1,(v3.2.2.1,(v3.2.2.2.1,(v3.2.2.2.2.1,(v3.2.2.2.2.2.1,(v4.2.2.2.2.2.2.1,v3.2.2.2.2.2.2)))))))) (br (af eL.1.1) (some ((false,()),(v3.2.1,(v3.2.2.1,(v3.2.2.2.1,(v3.2.2.2.2.1,(v3.2.2.2.2.2.1,(v4.2.2.2.2.2.2.1,v3.2.2.2.2.2.2)))))))) (fE (((ae .i64 v2.1.1 1),()),((),((),((),v3.2))))))) (fE (((ae .i64 v2.1.1 1),()),((),((),((),v3.2))))))))))))))))) (bd (g.ax v5 3 v3.2.1 v3.2.2.1 v3.2.2.2.1 v3.2.2.2.2.1 v3.2.2.2.2.2.1 v4.2.2.2.2.2.2.1 v3.2.2.2.2.2.2.1 v3.2.2.2.2.2.2.2.1 v3.2.2.2.2.2.2.2.2.1 v3.2.2.2.2.2.2.2.2.2.1) (fun lE=>(bd (g.av (cat [] nM.1.1) lE.1.1) (fun lD=>(bd (g.ak v5 3 v3.2.1 v3.2.2.1 v3.2.2.2.1 v3.2.2.2.2.1 v3.2.2.2.2.2.1 v4.2.2.2.2.2.2.1 v3.2.2.2.2.2.2.1 v3.2.2.2.2.2.2.2.1 v3.2.2.2.2.2.2.2.2.1 v3.2.2.2.2.2.2.2.2.2.1) (fun jl=>(bd (g.ay (cat [] nL.1.1) jl.1.1) (fun E2=>(br (af (ah 3 (bJ (cl .i64 (nth 0 a1 (nN v2.1.1))) 5))) (br (af lD.1.1) (some ((false,()),(v3.2.1,(v3.2.2.1,(v3.2.2.2.1,(v3.2.2.2.2.1,(v3.2.2.2.2.2.1,(v4.2.2.2.2.2.2.1,v3.2.2.2.2.2.2)))))))) (br (af E2.1.1) (some ((false,()),(v3.2.1,(v3.2.2.1,(v3.2.2.2.1,(v3.2.2.2.2.1,(v3.2.2.2.2.2.1,(v4.2.2.2.2.2.2.1,v3.2.2.2.2.2.2)))))))) (fE (((ae .i64 v2.1.1 1),()),((),((),((),v3.2))))))) (br (ah s.1.1 0) (br (af lD.1.1) (some ((false,()),(v3.2.1,(v3.2.2.1,(v3.2.2.2.1,(v3.2.2.2.2.1,(v3.2.2.2.2.2.1,(v4.2.2.2.2.2.2.1,v3.2.2.2.2.2.2)))))))) (br (af E2.1.1) (some ((false,()),(v3.2.1,(v3.2.2.1,(v3.2.2.2.1,(v3.2.2.2.2.1,(v3.2.2.2.2.2.1,(v4.2.2.2.2.2.2.1,v3.2.2.2.2.2.2)))))))) (fE (((ae .i64 v2.1.1 1),()),((),((),((),v3.2))))))) (fE (((ae .i64 v2.1.1 1),()),((),((),((),v3.2))))))))))))))))))))))))))) (br (ah s.1.1 0) (br (af b9.1.1) (some ((false,()),(v3.2.1,(v3.2.2.1,(v3.2.2.2.1,(v3.2.2.2.2.1,(v3.2.2.2.2.2.1,(v4.2.2.2.2.2.2.1,v3.2.2.2.2.2.2)))))))) (br (af jE.1.1) (some ((false,()),(v3.2.1,(v3.2.2.1,(v3.2.2.2.1,(v3.2.2.2.2.1,(v3.2.2.2.2.2.1,(v4.2.2.2.2.2.2.1,v3.2.2.2.2.2.2)))))))) (bd (g.ax v5 2 v3.2.1 v3.2.2.1 v3.2.2.2.1 v3.2.2.2.2.1 v3.2.2.2.2.2.1 v4.2.2.2.2.2.2.1 v3.2.2.2.2.2.2.1 v3.2.2.2.2.2.2.2.1 v3.2.2.2.2.2.2.2.2.1 v3.2.2.2.2.2.2.2.2.2.1) (fun Km=>(bd (g.av (cat [] v11.1.1) Km.1.1) (fun BA=>(bd (g.ak v5 2 v3.2.1 v3.2.2.1 v3.2.2.2.1 v3.2.2.2.2.1 v3.2.2.2.2.2.1 v4.2.2.2.2.2.2.1 v3.2.2.2.2.2.2.1 v3.2.2.2.2.2.2.2.1 v3.2.2.2.2.2.2.2.2.1 v3.2.2.2.2.2.2.2.2.2.1) (fun CF=>(bd (g.ay (cat [] Bs.1.1) CF.1.1) (fun sv=>(br (af (ah 2 (bJ (cl .i64 (nth 0 a1 (nN v2.1.1))) 5))) (br (af BA.1.1) (some ((false,()),(v3.2.1,(v3.2.2.1,(v3.2.2.2.1,(v3.2.2.2.2.1,(v3.2.2.2.2.2.1,(v4.2.2.2.2.2.2.1,v3.2.2.2.2.2.2)))))))) (br (af sv.1.1) (some ((false,()),(v3.2.1,(v3.2.2.1,(v3.2.2.2.1,(v3.2.2.2.2.1,(v3.2.2.2.2.2.1,(v4.2.2.2.2.2.2.1,v3.2.2.2.2.2.2)))))))) (bd (g.ax v5 3 v3.2.1 v3.2.2.1 v3.2.2.2.1 v3.2.2.2.2.1 v3.2.2.2.2.2.1 v4.2.2.2.2.2.2.1 v3.2.2.2.2.2.2.1 v3.2.2.2.2.2.2.2.1 v3.2.2.2.2.2.2.2.2.1 v3.2.2.2.2.2.2.2.2.2.1) (fun Qt=>(bd (g.av (cat [] nM.1.1) Qt.1.1) (fun E1=>(bd (g.ak v5 3 v3.2.1 v3.2.2.1 v3.2.2.2.1 v3.2.2.2.2.1 v3.2.2.2.2.2.1 v4.2.2.2.2.2.2.1 v3.2.2.2.2.2.2.1 v3.2.2.2.2.2.2.2.1 v3.2.2.2.2.2.2.2.2.1 v3.2.2.2.2.2.2.2.2.2.1) (fun FZ=>(bd (g.ay (cat [] nL.1.1) FZ.1.1) (fun E0=>(br (af (ah 3 (bJ (cl .i64 (nth 0 a1 (nN v2.1.1))) 5))) (br (af E1.1.1) (some ((false,()),(v3.2.1,(v3.2.2.1,(v3.2.2.2.1,(v3.2.2.2.2.1,(v3.2.2.2.2.2.1,(v4.2.2.2.2.2.2.1,v3.2.2.2.2.2.2)))))))) (br (af E0.1.1) (some ((false,()),(v3.2.1,(v3.2.2.1,(v3.2.2.2.1,(v3.2.2.2.2.1,(v3.2.2.2.2.2.1,(v4.2.2.2.2.2.2.1,v3.2.2.2.2.2.2)))))))) (fE (((ae .i64 v2.1.1 1),()),((),((),((),v3.2))))))) (br (ah s.1.1 0) (br (af E1.1.1) (some ((false,()),(v3.2.1,(v3.2.2.1,(v3.2.2.2.1,(v3.2.2.2.2.1,(v3.2.2.2.2.2.1,(v4.2.2.2.2.2.2.1,v3.2.2.2.2.2.2)))))))) (br (af E0.1.1) (some ((false,()),(v3.2.1,(v3.2.2.1,(v3.2.2.2.1,(v3.2.2.2.2.1,(v3.2.2.2.2.2.1,(v4.2.2.2.2.2.2.1,v3.2.2.2.2.2.2)))))))) (fE (((ae .i64 v2.1.1 1),()),((),((),((),v3.2))))))) (fE (((ae .i64 v2.1.1 1),()),((),((),((),v3.2))))))))))))))))) (br (ah s.1.1 0) (br (af BA.1.1) (some ((false,()),(v3.2.1,(v3.2.2.1,(v3.2.2.2.1,(v3.2.2.2.2.1,(v3.2.2.2.2.2.1,(v4.2.2.2.2.2.2.1,v3.2.2.2.2.2.2)))))))) (br (af sv.1.1) (some ((false,()),(v3.2.1,(v3.2.2.1,(v3.2.2.2.1,(v3.2.2.2.2.1,(v3.2.2.2.2.2.1,(v4.2.2.2.2.2.2.1,v3.2.2.2.2.2.2)))))))) (bd (g.ax v5 3 v3.2.1 v3.2.2.1 v3.2.2.2.1 v3.2.2.2.2.1 v3.2.2.2.2.2.1 v4.2.2.2.2.2.2.1 v3.2.2.2.2.2.2.1 v3.2.2.2.2.2.2.2.1 v3.2.2.2.2.2.2.2.2.1 v3.2.2.2.2.2.2.2.2.2.1) (fun FY=>(bd (g.av (cat [] nM.1.1) FY.1.1) (fun Bz=>(bd (g.ak v5 3 v3.2.1 v3.2.2.1 v3.2.2.2.1 v3.2.2.2.2.1 v3.2.2.2.2.2.1 v4.2.2.2.2.2.2.1 v3.2.2.2.2.2.2.1 v3.2.2.2.2.2.2.2.1 v3.2.2.2.2.2.2.2.2.1 v3.2.2.2.2.2.2.2.2.2.1) (fun FX=>(bd (g.ay (cat [] nL.1.1) FX.1.1) (fun EZ=>(br (af (ah 3 (bJ (cl .i64 (nth 0 a1 (nN v2.1.1))) 5))) (br (af Bz.1.1) (some ((false,()),(v3.2.1,(v3.2.2.1,(v3.2.2.2.1,(v3.2.2.2.2.1,(v3.2.2.2.2.2.1,(v4.2.2.2.2.2.2.1,v3.2.2.2.2.2.2)))))))) (br (af EZ.1.1) (some ((false,()),(v3.2.1,(v3.2.2.1,(v3.2.2.2.1,(v3.2.2.2.2.1,(v3.2.2.2.2.2.1,(v4.2.2.2.2.2.2.1,v3.2.2.2.2.2.2)))))))) (fE (((ae .i64 v2.1.1 1),()),((),((),((),v3.2))))))) (br (ah s.1.1 0) (br (af Bz.1.1) (some ((false,()),(v3.2.1,(v3.2.2.1,(v3.2.2.2.1,(v3.2.2.2.2.1,(v3.2.2.2.2.2.1,(v4.2.2.2.2.2.2.1,v3.2.2.2.2.2.2)))))))) (br (af EZ.1.1) (some ((false,()),(v3.2.1,(v3.2.2.1,(v3.2.2.2.1,(v3.2.2.2.2.1,(v3.2.2.2.2.2.1,(v4.2.2.2.2.2.2.1,v3.2.2.2.2.2.2)))))))) (fE (((ae .i64 v2.1.1 1),()),((),((),((),v3.2))))))) (fE (((ae .i64 v2.1.1 1),()),((),((),((),v3.2))))))))))))))))) (bd (g.ax v5 3 v3.2.1 v3.2.2.1 v3.2.2.2.1 v3.2.2.2.2.1 v3.2.2.2.2.2.1 v4.2.2.2.2.2.2.1 v3.2.2.2.2.2.2.1 v3.2.2.2.2.2.2.2.1 v3.2.2.2.2.2.2.2.2.1 v3.2.2.2.2.2.2.2.2.2.1) (fun cd=>(bd (g.av (cat [] nM.1.1) cd.1.1) (fun EY=>(bd (g.ak v5 3 v3.2.1 v3.2.2.1 v3.2.2.2.1 v3.2.2.2.2.1 v3.2.2.2.2.2.1 v4.2.2.2.2.2.2.1 v3.2.2.2.2.2.2.1 v3.2.2.2.2.2.2.2.1 v3.2.2.2.2.2.2.2.2.1 v3.2.2.2.2.2.2.2.2.2.1) (fun Qs=>(bd (g.ay (cat [] nL.1.1) Qs.1.1) (fun wJ=>(br (af (ah 3 (bJ (cl .i64 (nth 0 a1 (nN v2.1.1))) 5))) (br (af EY.1.1) (some ((false,()),(v3.2.1,(v3.2.2.1,(v3.2.2.2.1,(v3.2.2.2.2.1,(v3.2.2.2.2.2.1,(v4.2.2.2.2.2.2.1,v3.2.2.2.2.2.2)))))))) (br (af wJ.1.1) (some ((false,()),(v3.2.1,(v3.2.2.1,(v3.2.2.2.1,(v3.2.2.2.2.1,(v3.2.2.2.2.2.1,(v4.2.2.2.2.2.2.1,v3.2.2.2.2.2.2)))))))) (fE (((ae .i64 v2.1.1 1),()),((),((),((),v3.2))))))) (br (ah s.1.1 0) (br (af EY.1.1) (some ((false,()),(v3.2.1,(v3.2.2.1,(v3.2.2.2.1,(v3.2.2.2.2.1,(v3.2.2.2.2.2.1,(v4.2.2.2.2.2.2.1,v3.2.2.2.2.2.2)))))))) (br (af wJ.1.1) (some ((false,()),(v3.2.1,(v3.2.2.1,(v3.2.2.2.1,(v3.2.2.2.2.1,(v3.2.2.2.2.2.1,(v4.2.2.2.2.2.2.1,v3.2.2.2.2.2.2)))))))) (fE (((ae .i64 v2.1.1 1),()),((),((),((),v3.2))))))) (fE (((ae .i64 v2.1.1 1),()),((),((),((),v3.2))))))))))))))))))))))))))) (bd (g.ax v5 2 v3.2.1 v3.2.2.1 v3.2.2.2.1 v3.2.2.2.2.1 v3.2.2.2.2.2.1 v4.2.2.2.2.2.2.1 v3.2.2.2.2.2.2.1 v3.2.2.2.2.2.2.2.1 v3.2.2.2.2.2.2.2.2.1 v3.2.2.2.2.2.2.2.2.2.1) (fun w_=>(bd (g.av (cat [] v11.1.1) w_.1.1) (fun wI=>(bd (g.ak v5 2 v3.2.1 v3.2.2.1 v3.2.2.2.1 v3.2.2.2.2.1 v3.2.2.2.2.2.1 v4.2.2.2.2.2.2.1 v3.2.2.2.2.2.2.1 v3.2.2.2.2.2.2.2.1 v3.2.2.2.2.2.2.2.2.1 v3.2.2.2.2.2.2.2.2.2.1) (fun FW=>(bd (g.ay (cat [] Bs.1.1) FW.1.1) (fun By=>(br (af (ah 2 (bJ (cl .i64 (nth 0 a1 (nN v2.1.1))) 5))) (br (af wI.1.1) (some ((false,()),(v3.2.1,(v3.2.2.1,(v3.2.2.2.1,(v3.2.2.2.2.1,(v3.2.2.2.2.2.1,(v4.2.2.2.2.2.2.1,v3.2.2.2.2.2.2)))))))) (br (af By.1.1) (some ((false,()),(v3.2.1,(v3.2.2.1,(v3.2.2.2.1,(v3.2.2.2.2.1,(v3.2.2.2.2.2.1,(v4.2.2.2.2.2.2.1,v3.2.2.2.2.2.2)))))))) (bd (g.ax v5 3 v3.2.1 v3.2.2.1 v3.2.2.2.1 v3.2.2.2.2.1 v3.2.2.2.2.2.1 v4.2.2.2.2.2.2.1 v3.2.2.2.2.2.2.1 v3.2.2.2.2.2.2.2.1 v3.2.2.2.2.2.2.2.2.1 v3.2.2.2.2.2.2.2.2.2.1) (fun CE=>(bd (g.av (cat [] nM.1.1) CE.1.1) (fun Bx=>(bd (g.ak v5 3 v3.2.1 v3.2.2.1 v3.2.2.2.1 v3.2.2.2.2.1 v3.2.2.2.2.2.1 v4.2.2.2.2.2.2.1 v3.2.2.2.2.2.2.1 v3.2.2.2.2.2.2.2.1 v3.2.2.2.2.2.2.2.2.1 v3.2.2.2.2.2.2.2.2.2.1) (fun Ag=>(bd (g.ay (cat [] nL.1.1) Ag.1.1) (fun wH=>(br (af (ah 3 (bJ (cl .i64 (nth 0 a1 (nN v2.1.1))) 5))) (br (af Bx.1.1) (some ((false,()),(v3.2.1,(v3.2.2.1,(v3.2.2.2.1,(v3.2.2.2.2.1,(v3.2.2.2.2.2.1,(v4.2.2.2.2.2.2.1,v3.2.2.2.2.2.2)))))))) (br (af wH.1.1) (some ((false,()),(v3.2.1,(v3.2.2.1,(v3.2.2.2.1,(v3.2.2.2.2.1,(v3.2.2.2.2.2.1,(v4.2.2.2.2.2.2.1,v3.2.2.2.2.2.2)))))))) (fE (((ae .i64 v2.1.1 1),()),((),((),((),v3.2))))))) (br (ah s.1.1 0) (br (af Bx.1.1) (some ((false,()),(v3.2.1,(v3.2.2.1,(v3.2.2.2.1,(v3.2.2.2.2.1,(v3.2.2.2.2.2.1,(v4.2.2.2.2.2.2.1,v3.2.2.2.2.2.2)))))))) (br (af wH.1.1) (some ((false,()),(v3.2.1,(v3.2.2.1,(v3.2.2.2.1,(v3.2.2.2.2.1,(v3.2.2.2.2.2.1,(v4.2.2.2.2.2.2.1,v3.2.2.2.2.2.2)))))))) (fE (((ae .i64 v2.1.1 1),()),((),((),((),v3.2))))))) (fE (((ae .i64 v2.1.1 1),()),((),((),((),v3.2))))))))))))))))) (br (ah s.1.1 0) (br (af wI.1.1) (some ((false,()),(v3.2.1,(v3.2.2.1,(v3.2.2.2.1,(v3.2.2.2.2.1,(v3.2.2.2.2.2.1,(v4.2.2.2.2.2.2.1,v3.2.2.2.2.2.2)))))))) (br (af By.1.1) (some ((false,()),(v3.2.1,(v3.2.2.1,(v3.2.2.2.1,(v3.2.2.2.2.1,(v3.2.2.2.2.2.1,(v4.2.2.2.2.2.2.1,v3.2.2.2.2.2.2)))))))) (bd (g.ax v5 3 v3.2.1 v3.2.2.1 v3.2.2.2.1 v3.2.2.2.2.1 v3.2.2.2.2.2.1 v4.2.2.2.2.2.2.1 v3.2.2.2.2.2.2.1 v3.2.2.2.2.2.2.2.1 v3.2.2.2.2.2.2.2.2.1 v3.2.2.2.2.2.2.2.2.2.1) (fun uG=>(bd (g.av (cat [] nM.1.1) uG.1.1) (fun su=>(bd (g.ak v5 3 v3.2.1 v3.2.2.1 v3.2.2.2.1 v3.2.2.2.2.1 v3.2.2.2.2.2.1 v4.2.2.2.2.2.2.1 v3.2.2.2.2.2.2.1 v3.2.2.2.2.2.2.2.1 v3.2.2.2.2.2.2.2.2.1 v3.2.2.2.2.2.2.2.2.2.1) (fun Bw=>(bd (g.ay (cat [] nL.1.1) Bw.1.1) (fun vh=>(br (af (ah 3 (bJ (cl .i64 (nth 0 a1 (nN v2.1.1))) 5))) (br (af su.1.1) (some ((false,()),(v3.2.1,(v3.2.2.1,(v3.2.2.2.1,(v3.2.2.2.2.1,(v3.2.2.2.2.2.1,(v4.2.2.2.2.2.2.1,v3.2.2.2.2.2.2)))))))) (br (af vh.1.1) (some ((false,()),(v3.2.1,(v3.2.2.1,(v3.2.2.2.1,(v3.2.2.2.2.1,(v3.2.2.2.2.2.1,(v4.2.2.2.2.2.2.1,v3.2.2.2.2.2.2)))))))) (fE (((ae .i64 v2.1.1 1),()),((),((),((),v3.2))))))) (br (ah s.1.1 0) (br (af su.1.1) (some ((false,()),(v3.2.1,(v3.2.2.1,(v3.2.2.2.1,(v3.2.2.2.2.1,(v3.2.2.2.2.2.1,(v4.2.2.2.2.2.2.1,v3.2.2.2.2.2.2)))))))) (br (af vh.1.1) (some ((false,()),(v3.2.1,(v3.2.2.1,(v3.2.2.2.1,(v3.2.2.2.2.1,(v3.2.2.2.2.2.1,(v4.2.2.2.2.2.2.1,v3.2.2.2.2.2.2)))))))) (fE (((ae .i64 v2.1.1 1),()),((),((),((),v3.2))))))) (fE (((ae .i64 v2.1.1 1),()),((),((),((),v3.2))))))))))))))))) (bd (g.ax v5 3 v3.2.1 v3.2.2.1 v3.2.2.2.1 v3.2.2.2.2.1 v3.2.2.2.2.2.1 v4.2.2.2.2.2.2.1 v3.2.2.2.2.2.2.1 v3.2.2.2.2.2.2.2.1 v3.2.2.2.2.2.2.2.2.1 v3.2.2.2.2.2.2.2.2.2.1) (fun w9=>(bd (g.av (cat [] nM.1.1) w9.1.1) (fun ym=>(bd (g.ak v5 3 v3.2.1 v3.2.2.1 v3.2.2.2.1 v3.2.2.2.2.1 v3.2.2.2.2.2.1 v4.2.2.2.2.2.2.1 v3.2.2.2.2.2.2.1 v3.2.2.2.2.2.2.2.1 v3.2.2.2.2.2.2.2.2.1 v3.2.2.2.2.2.2.2.2.2.1) (fun Kl=>(bd (g.ay (cat [] nL.1.1) Kl.1.1) (fun Jd=>(br (af (ah 3 (bJ (cl .i64 (nth 0 a1 (nN v2.1.1))) 5))) (br (af ym.1.1) (some ((false,()),(v3.2.1,(v3.2.2.1,(v3.2.2.2.1,(v3.2.2.2.2.1,(v3.2.2.2.2.2.1,(v4.2.2.2.2.2.2.1,v3.2.2.2.2.2.2)))))))) (br (af Jd.1.1) (some ((false,()),(v3.2.1,(v3.2.2.1,(v3.2.2.2.1,(v3.2.2.2.2.1,(v3.2.2.2.2.2.1,(v4.2.2.2.2.2.2.1,v3.2.2.2.2.2.2)))))))) (fE (((ae .i64 v2.1.1 1),()),((),((),((),v3.2))))))) (br (ah s.1.1 0) (br (af ym.1.1) (some ((false,()),(v3.2.1,(v3.2.2.1,(v3.2.2.2.1,(v3.2.2.2.2.1,(v3.2.2.2.2.2.1,(v4.2.2.2.2.2.2.1,v3.2.2.2.2.2.2)))))))) (br (af Jd.1.1) (some ((false,()),(v3.2.1,(v3.2.2.1,(v3.2.2.2.1,(v3.2.2.2.2.1,(v3.2.2.2.2.2.1,(v4.2.2.2.2.2.2.1,v3.2.2.2.2.2.2)))))))) (fE (((ae .i64 v2.1.1 1),()),((),((),((),v3.2))))))) (fE (((ae .i64 v2.1.1 1),()),((),((),((),v3.2))))))))))))))))))))))))))))))))))))) (br (ah s.1.1 0) (br (af p8.1.1) (some ((false,()),(v3.2.1,(v3.2.2.1,(v3.2.2.2.1,(v3.2.2.2.2.1,(v3.2.2.2.2.2.1,(v4.2.2.2.2.2.2.1,v3.2.2.2.2.2.2)))))))) (br (af fm.1.1) (some ((false,()),(v3.2.1,(v3.2.2.1,(v3.2.2.2.1,(v3.2.2.2.2.1,(v3.2.2.2.2.2.1,(v4.2.2.2.2.2.2.1,v3.2.2.2.2.2.2)))))))) (bd (g.ax v5 1 v3.2.1 v3.2.2.1 v3.2.2.2.1 v3.2.2.2.2.1 v3.2.2.2.2.2.1 v4.2.2.2.2.2.2.1 v3.2.2.2.2.2.2.1 v3.2.2.2.2.2.2.2.1 v3.2.2.2.2.2.2.2.2.1 v3.2.2.2.2.2.2.2.2.2.1) (fun rK=>(bd (g.av (cat [] v9.1.1) rK.1.1) (fun Mb=>(bd (g.ak v5 1 v3.2.1 v3.2.2.1 v3.2.2.2.1 v3.2.2.2.2.1 v3.2.2.2.2.2.1 v4.2.2.2.2.2.2.1 v3.2.2.2.2.2.2.1 v3.2.2.2.2.2.2.2.1 v3.2.2.2.2.2.2.2.2.1 v3.2.2.2.2.2.2.2.2.2.1) (fun qH=>(bd (g.ay (cat [] v10.1.1) qH.1.1) (fun Bv=>(br (af (ah 1 (bJ (cl .i64 (nth 0 a1 (nN v2.1.1))) 5))) (br (af Mb.1.1) (some ((false,()),(v3.2.1,(v3.2.2.1,(v3.2.2.2.1,(v3.2.2.2.2.1,(v3.2.2.2.2.2.1,(v4.2.2.2.2.2.2.1,v3.2.2.2.2.2.2)))))))) (br (af Bv.1.1) (some ((false,()),(v3.2.1,(v3.2.2.1,(v3.2.2.2.1,(v3.2.2.2.2.1,(v3.2.2.2.2.2.1,(v4.2.2.2.2.2.2.1,v3.2.2.2.2.2.2)))))))) (bd (g.ax v5 2 v3.2.1 v3.2.2.1 v3.2.2.2.1 v3.2.2.2.2.1 v3.2.2.2.2.2.1 v4.2.2.2.2.2.2.1 v3.2.2.2.2.2.2.1 v3.2.2.2.2.2.2.2.1 v3.2.2.2.2.2.2.2.2.1 v3.2.2.2.2.2.2.2.2.2.1) (fun UQ=>(bd (g.av (cat [] v11.1.1) UQ.1.1) (fun EX=>(bd (g.ak v5 2 v3.2.1 v3.2.2.1 v3.2.2.2.1 v3.2.2.2.2.1 v3.2.2.2.2.2.1 v4.2.2.2.2.2.2.1 v3.2.2.2.2.2.2.1 v3.2.2.2.2.2.2.2.1 v3.2.2.2.2.2.2.2.2.1 v3.2.2.2.2.2.2.2.2.2.1) (fun p69=>(bd (g.ay (cat [] Bs.1.1) p69.1.1) (fun Qr=>(br (af (ah 2 (bJ (cl .i64 (nth 0 a1 (nN v2.1.1))) 5))) (br (af EX.1.1) (some ((false,()),(v3.2.1,(v3.2.2.1,(v3.2.2.2.1,(v3.2.2.2.2.1,(v3.2.2.2.2.2.1,(v4.2.2.2.2.2.2.1,v3.2.2.2.2.2.2)))))))) (br (af Qr.1.1) (some ((false,()),(v3.2.1,(v3.2.2.1,(v3.2.2.2.1,(v3.2.2.2.2.1,(v3.2.2.2.2.2.1,(v4.2.2.2.2.2.2.1,v3.2.2.2.2.2.2)))))))) (bd (g.ax v5 3 v3.2.1 v3.2.2.1 v3.2.2.2.1 v3.2.2.2.2.1 v3.2.2.2.2.2.1 v4.2.2.2.2.2.2.1 v3.2.2.2.2.2.2.1 v3.2.2.2.2.2.2.2.1 v3.2.2.2.2.2.2.2.2.1 v3.2.2.2.2.2.2.2.2.2.1) (fun Kk=>(bd (g.av (cat [] nM.1.1) Kk.1.1) (fun Ma=>(bd (g.ak v5 3 v3.2.1 v3.2.2.1 v3.2.2.2.1 v3.2.2.2.2.1 v3.2.2.2.2.2.1 v4.2.2.2.2.2.2.1 v3.2.2.2.2.2.2.1 v3.2.2.2.2.2.2.2.1 v3.2.2.2.2.2.2.2.2.1 v3.2.2.2.2.2.2.2.2.2.1) (fun FV=>(bd (g.ay (cat [] nL.1.1) FV.1.1) (fun UP=>(br (af (ah 3 (bJ (cl .i64 (nth 0 a1 (nN v2.1.1))) 5))) (br (af Ma.1.1) (some ((false,()),(v3.2.1,(v3.2.2.1,(v3.2.2.2.1,(v3.2.2.2.2.1,(v3.2.2.2.2.2.1,(v4.2.2.2.2.2.2.1,v3.2.2.2.2.2.2)))))))) (br (af UP.1.1) (some ((false,()),(v3.2.1,(v3.2.2.1,(v3.2.2.2.1,(v3.2.2.2.2.1,(v3.2.2.2.2.2.1,(v4.2.2.2.2.2.2.1,v3.2.2.2.2.2.2)))))))) (fE (((ae .i64 v2.1.1 1),()),((),((),((),v3.2))))))) (br (ah s.1.1 0) (br (af Ma.1.1) (some ((false,()),(v3.2.1,(v3.2.2.1,(v3.2.2.2.1,(v3.2.2.2.2.1,(v3.2.2.2.2.2.1,(v4.2.2.2.2.2.2.1,v3.2.2.2.2.2.2)))))))) (br (af UP.1.1) (some ((false,()),(v3.2.1,(v3.2.2.1,(v3.2.2.2.1,(v3.2.2.2.2.1,(v3.2.2.2.2.2.1,(v4.2.2.2.2.2.2.1,v3.2.2.2.2.2.2)))))))) (fE (((ae .i64 v2.1.1 1),()),((),((),((),v3.2))))))) (fE (((ae .i64 v2.1.1 1),()),((),((),((),v3.2))))))))))))))))) (br (ah s.1.1 0) (br (af EX.1.1) (some ((false,()),(v3.2.1,(v3.2.2.1,(v3.2.2.2.1,(v3.2.2.2.2.1,(v3.2.2.2.2.2.1,(v4.2.2.2.2.2.2.1,v3.2.2.2.2.2.2)))))))) (br (af Qr.1.1) (some ((false,()),(v3.2.1,(v3.2.2.1,(v3.2.2.2.1,(v3.2.2.2.2.1,(v3.2.2.2.2.2.1,(v4.2.2.2.2.2.2.1,v3.2.2.2.2.2.2)))))))) (bd (g.ax v5 3 v3.2.1 v3.2.2.1 v3.2.2.2.1 v3.2.2.2.2.1 v3.2.2.2.2.2.1 v4.2.2.2.2.2.2.1 v3.2.2.2.2.2.2.1 v3.2.2.2.2.2.2.2.1 v3.2.2.2.2.2.2.2.2.1 v3.2.2.2.2.2.2.2.2.2.1) (fun Qq=>(bd (g.av (cat [] nM.1.1) Qq.1.1) (fun p76=>(bd (g.ak v5 3 v3.2.1 v3.2.2.1 v3.2.2.2.1 v3.2.2.2.2.1 v3.2.2.2.2.2.1 v4.2.2.2.2.2.2.1 v3.2.2.2.2.2.2.1 v3.2.2.2.2.2.2.2.1 v3.2.2.2.2.2.2.2.2.1 v3.2.2.2.2.2.2.2.2.2.1) (fun WB=>(bd (g.ay (cat [] nL.1.1) WB.1.1) (fun p78=>(br (af (ah 3 (bJ (cl .i64 (nth 0 a1 (nN v2.1.1))) 5))) (br (af p76.1.1) (some ((false,()),(v3.2.1,(v3.2.2.1,(v3.2.2.2.1,(v3.2.2.2.2.1,(v3.2.2.2.2.2.1,(v4.2.2.2.2.2.2.1,v3.2.2.2.2.2.2)))))))) (br (af p78.1.1) (some ((false,()),(v3.2.1,(v3.2.2.1,(v3.2.2.2.1,(v3.2.2.2.2.1,(v3.2.2.2.2.2.1,(v4.2.2.2.2.2.2.1,v3.2.2.2.2.2.2)))))))) (fE (((ae .i64 v2.1.1 1),()),((),((),((),v3.2))))))) (br (ah s.1.1 0) (br (af p76.1.1) (some ((false,()),(v3.2.1,(v3.2.2.1,(v3.2.2.2.1,(v3.2.2.2.2.1,(v3.2.2.2.2.2.1,(v4.2.2.2.2.2.2.1,v3.2.2.2.2.2.2)))))))) (br (af p78.1.1) (some ((false,()),(v3.2.1,(v3.2.2.1,(v3.2.2.2.1,(v3.2.2.2.2.1,(v3.2.2.2.2.2.1,(v4.2.2.2.2.2.2.1,v3.2.2.2.2.2.2)))))))) (fE (((ae .i64 v2.1.1 1),()),((),((),((),v3.2))))))) (fE (((ae .i64 v2.1.1 1),()),((),((),((),v3.2))))))))))))))))) (bd (g.ax v5 3 v3.2.1 v3.2.2.1 v3.2.2.2.1 v3.2.2.2.2.1 v3.2.2.2.2.2.1 v4.2.2.2.2.2.2.1 v3.2.2.2.2.2.2.1 v3.2.2.2.2.2.2.2.1 v3.2.2.2.2.2.2.2.2.1 v3.2.2.2.2.2.2.2.2.2.1) (fun L_=>(bd (g.av (cat [] nM.1.1) L_.1.1) (fun p80=>(bd (g.ak v5 3 v3.2.1 v3.2.2.1 v3.2.2.2.1 v3.2.2.2.2.1 v3.2.2.2.2.2.1 v4.2.2.2.2.2.2.1 v3.2.2.2.2.2.2.1 v3.2.2.2.2.2.2.2.1 v3.2.2.2.2.2.2.2.2.1 v3.2.2.2.2.2.2.2.2.2.1) (fun WA=>(bd (g.ay (cat [] nL.1.1) WA.1.1) (fun UO=>(br (af (ah 3 (bJ (cl .i64 (nth 0 a1 (nN v2.1.1))) 5))) (br (af p80.1.1) (some ((false,()),(v3.2.1,(v3.2.2.1,(v3.2.2.2.1,(v3.2.2.2.2.1,(v3.2.2.2.2.2.1,(v4.2.2.2.2.2.2.1,v3.2.2.2.2.2.2)))))))) (br (af UO.1.1) (some ((false,()),(v3.2.1,(v3.2.2.1,(v3.2.2.2.1,(v3.2.2.2.2.1,(v3.2.2.2.2.2.1,(v4.2.2.2.2.2.2.1,v3.2.2.2.2.2.2)))))))) (fE (((ae .i64 v2.1.1 1),()),((),((),((),v3.2))))))) (br (ah s.1.1 0) (br (af p80.1.1) (some ((false,()),(v3.2.1,(v3.2.2.1,(v3.2.2.2.1,(v3.2.2.2.2.1,(v3.2.2.2.2.2.1,(v4.2.2.2.2.2.2.1,v3.2.2.2.2.2.2)))))))) (br (af UO.1.1) (some ((false,()),(v3.2.1,(v3.2.2.1,(v3.2.2.2.1,(v3.2.2.2.2.1,(v3.2.2.2.2.2.1,(v4.2.2.2.2.2.2.1,v3.2.2.2.2.2.2)))))))) (fE (((ae .i64 v2.1.1 1),()),((),((),((),v3.2))))))) (fE (((ae .i64 v2.1.1 1),()),((),((),((),v3.2))))))))))))))))))))))))))) (br (ah s.1.1 0) (br (af Mb.1.1) (some ((false,()),(v3.2.1,(v3.2.2.1,(v3.2.2.2.1,(v3.2.2.2.2.1,(v3.2.2.2.2.2.1,(v4.2.2.2.2.2.2.1,v3.2.2.2.2.2.2)))))))) (br (af Bv.1.1) (some ((false,()),(v3.2.1,(v3.2.2.1,(v3.2.2.2.1,(v3.2.2.2.2.1,(v3.2.2.2.2.2.1,(v4.2.2.2.2.2.2.1,v3.2.2.2.2.2.2)))))))) (bd (g.ax v5 2 v3.2.1 v3.2.2.1 v3.2.2.2.1 v3.2.2.2.2.1 v3.2.2.2.2.2.1 v4.2.2.2.2.2.2.1 v3.2.2.2.2.2.2.1 v3.2.2.2.2.2.2.2.1 v3.2.2.2.2.2.2.2.2.1 v3.2.2.2.2.2.2.2.2.2.1) (fun Wz=>(bd (g.av (cat [] v11.1.1) Wz.1.1) (fun UN=>(bd (g.ak v5 2 v3.2.1 v3.2.2.1 v3.2.2.2.1 v3.2.2.2.2.1 v3.2.2.2.2.2.1 v4.2.2.2.2.2.2.1 v3.2.2.2.2.2.2.1 v3.2.2.2.2.2.2.2.1 v3.2.2.2.2.2.2.2.2.1 v3.2.2.2.2.2.2.2.2.2.1) (fun p85=>(bd (g.ay (cat [] Bs.1.1) p85.1.1) (fun Qp=>(br (af (ah 2 (bJ (cl .i64 (nth 0 a1 (nN v2.1.1))) 5))) (br (af UN.1.1) (some ((false,()),(v3.2.1,(v3.2.2.1,(v3.2.2.2.1,(v3.2.2.2.2.1,(v3.2.2.2.2.2.1,(v4.2.2.2.2.2.2.1,v3.2.2.2.2.2.2)))))))) (br (af Qp.1.1) (some ((false,()),(v3.2.1,(v3.2.2.1,(v3.2.2.2.1,(v3.2.2.2.2.1,(v3.2.2.2.2.2.1,(v4.2.2.2.2.2.2.1,v3.2.2.2.2.2.2)))))))) (bd (g.ax v5 3 v3.2.1 v3.2.2.1 v3.2.2.2.1 v3.2.2.2.2.1 v3.2.2.2.2.2.1 v4.2.2.2.2.2.2.1 v3.2.2.2.2.2.2.1 v3.2.2.2.2.2.2.2.1 v3.2.2.2.2.2.2.2.2.1 v3.2.2.2.2.2.2.2.2.2.1) (fun Wy=>(bd (g.av (cat [] nM.1.1) Wy.1.1) (fun p88=>(bd (g.ak v5 3 v3.2.1 v3.2.2.1 v3.2.2.2.1 v3.2.2.2.2.1 v3.2.2.2.2.2.1 v4.2.2.2.2.2.2.1 v3.2.2.2.2.2.2.1 v3.2.2.2.2.2.2.2.1 v3.2.2.2.2.2.2.2.2.1 v3.2.2.2.2.2.2.2.2.2.1) (fun p89=>(bd (g.ay (cat [] nL.1.1) p89.1.1) (fun p90=>(br (af (ah 3 (bJ (cl .i64 (nth 0 a1 (nN v2.1.1))) 5))) (br (af p88.1.1) (some ((false,()),(v3.2.1,(v3.2.2.1,(v3.2.2.2.1,(v3.2.2.2.2.1,(v3.2.2.2.2.2.1,(v4.2.2.2.2.2.2.1,v3.2.2.2.2.2.2)))))))) (br (af p90.1.1) (some ((false,()),(v3.2.1,(v3.2.2.1,(v3.2.2.2.1,(v3.2.2.2.2.1,(v3.2.2.2.2.2.1,(v4.2.2.2.2.2.2.1,v3.2.2.2.2.2.2)))))))) (fE (((ae .i64 v2.1.1 1),()),((),((),((),v3.2))))))) (br (ah s.1.1 0) (br (af p88.1.1) (some ((false,()),(v3.2.1,(v3.2.2.1,(v3.2.2.2.1,(v3.2.2.2.2.1,(v3.2.2.2.2.2.1,(v4.2.2.2.2.2.2.1,v3.2.2.2.2.2.2)))))))) (br (af p90.1.1) (some ((false,()),(v3.2.1,(v3.2.2.1,(v3.2.2.2.1,(v3.2.2.2.2.1,(v3.2.2.2.2.2.1,(v4.2.2.2.2.2.2.1,v3.2.2.2.2.2.2)))))))) (fE (((ae .i64 v2.1.1 1),()),((),((),((),v3.2))))))) (fE (((ae .i64 v2.1.1 1),()),((),((),((),v3.2))))))))))))))))) (br (ah s.1.1 0) (br (af UN.1.1) (some ((false,()),(v3.2.1,(v3.2.2.1,(v3.2.2.2.1,(v3.2.2.2.2.1,(v3.2.2.2.2.2.1,(v4.2.2.2.2.2.2.1,v3.2.2.2.2.2.2)))))))) (br (af Qp.1.1) (some ((false,()),(v3.2.1,(v3.2.2.1,(v3.2.2.2.1,(v3.2.2.2.2.1,(v3.2.2.2.2.2.1,(v4.2.2.2.2.2.2.1,v3.2.2.2.2.2.2)))))))) (bd (g.ax v5 3 v3.2.1 v3.2.2.1 v3.2.2.2.1 v3.2.2.2.2.1 v3.2.2.2.2.2.1 v4.2.2.2.2.2.2.1 v3.2.2.2.2.2.2.1 v3.2.2.2.2.2.2.2.1 v3.2.2.2.2.2.2.2.2.1 v3.2.2.2.2.2.2.2.2.2.1) (fun p91=>(bd (g.av (cat [] nM.1.1) p91.1.1) (fun p92=>(bd (g.ak v5 3 v3.2.1 v3.2.2.1 v3.2.2.2.1 v3.2.2.2.2.1 v3.2.2.2.2.2.1 v4.2.2.2.2.2.2.1 v3.2.2.2.2.2.2.1 v3.2.2.2.2.2.2.2.1 v3.2.2.2.2.2.2.2.2.1 v3.2.2.2.2.2.2.2.2.2.1) (fun p93=>(bd (g.ay (cat [] nL.1.1) p93.1.1) (fun p94=>(br (af (ah 3 (bJ (cl .i64 (nth 0 a1 (nN v2.1.1))) 5))) (br (af p92.1.1) (some ((false,()),(v3.2.1,(v3.2.2.1,(v3.2.2.2.1,(v3.2.2.2.2.1,(v3.2.2.2.2.2.1,(v4.2.2.2.2.2.2.1,v3.2.2.2.2.2.2)))))))) (br (af p94.1.1) (some ((false,()),(v3.2.1,(v3.2.2.1,(v3.2.2.2.1,(v3.2.2.2.2.1,(v3.2.2.2.2.2.1,(v4.2.2.2.2.2.2.1,v3.2.2.2.2.2.2)))))))) (fE (((ae .i64 v2.1.1 1),()),((),((),((),v3.2))))))) (br (ah s.1.1 0) (br (af p92.1.1) (some ((false,()),(v3.2.1,(v3.2.2.1,(v3.2.2.2.1,(v3.2.2.2.2.1,(v3.2.2.2.2.2.1,(v4.2.2.2.2.2.2.1,v3.2.2.2.2.2.2)))))))) (br (af p94.1.1) (some ((false,()),(v3.2.1,(v3.2.2.1,(v3.2.2.2.1,(v3.2.2.2.2.1,(v3.2.2.2.2.2.1,(v4.2.2.2.2.2.2.1,v3.2.2.2.2.2.2)))))))) (fE (((ae .i64 v2.1.1 1),()),((),((),((),v3.2))))))) (fE (((ae .i64 v2.1.1 1),()),((),((),((),v3.2))))))))))))))))) (bd (g.ax v5 3 v3.2.1 v3.2.2.1 v3.2.2.2.1 v3.2.2.2.2.1 v3.2.2.2.2.2.1 v4.2.2.2.2.2.2.1 v3.2.2.2.2.2.2.1 v3.2.2.2.2.2.2.2.1 v3.2.2.2.2.2.2.2.2.1 v3.2.2.2.2.2.2.2.2.2.1) (fun p95=>(bd (g.av (cat [] nM.1.1) p95.1.1) (fun p96=>(bd (g.ak v5 3 v3.2.1 v3.2.2.1 v3.2.2.2.1 v3.2.2.2.2.1 v3.2.2.2.2.2.1 v4.2.2.2.2.2.2.1 v3.2.2.2.2.2.2.1 v3.2.2.2.2.2.2.2.1 v3.2.2.2.2.2.2.2.2.1 v3.2.2.2.2.2.2.2.2.2.1) (fun p97=>(bd (g.ay (cat [] nL.1.1) p97.1.1) (fun p98=>(br (af (ah 3 (bJ (cl .i64 (nth 0 a1 (nN v2.1.1))) 5))) (br (af p96.1.1) (some ((false,()),(v3.2.1,(v3.2.2.1,(v3.2.2.2.1,(v3.2.2.2.2.1,(v3.2.2.2.2.2.1,(v4.2.2.2.2.2.2.1,v3.2.2.2.2.2.2)))))))) (br (af p98.1.1) (some ((false,()),(v3.2.1,(v3.2.2.1,(v3.2.2.2.1,(v3.2.2.2.2.1,(v3.2.2.2.2.2.1,(v4.2.2.2.2.2.2.1,v3.2.2.2.2.2.2)))))))) (fE (((ae .i64 v2.1.1 1),()),((),((),((),v3.2))))))) (br (ah s.1.1 0) (br (af p96.1.1) (some ((false,()),(v3.2.1,(v3.2.2.1,(v3.2.2.2.1,(v3.2.2.2.2.1,(v3.2.2.2.2.2.1,(v4.2.2.2.2.2.2.1,v3.2.2.2.2.2.2)))))))) (br (af p98.1.1) (some ((false,()),(v3.2.1,(v3.2.2.1,(v3.2.2.2.1,(v3.2.2.2.2.1,(v3.2.2.2.2.2.1,(v4.2.2.2.2.2.2.1,v3.2.2.2.2.2.2)))))))) (fE (((ae .i64 v2.1.1 1),()),((),((),((),v3.2))))))) (fE (((ae .i64 v2.1.1 1),()),((),((),((),v3.2))))))))))))))))))))))))))) (bd (g.ax v5 2 v3.2.1 v3.2.2.1 v3.2.2.2.1 v3.2.2.2.2.1 v3.2.2.2.2.2.1 v4.2.2.2.2.2.2.1 v3.2.2.2.2.2.2.1 v3.2.2.2.2.2.2.2.1 v3.2.2.2.2.2.2.2.2.1 v3.2.2.2.2.2.2.2.2.2.1) (fun p99=>(bd (g.av (cat [] v11.1.1) p99.1.1) (fun Q1=>(bd (g.ak v5 2 v3.2.1 v3.2.2.1 v3.2.2.2.1 v3.2.2.2.2.1 v3.2.2.2.2.2.1 v4.2.2.2.2.2.2.1 v3.2.2.2.2.2.2.1 v3.2.2.2.2.2.2.2.1 v3.2.2.2.2.2.2.2.2.1 v3.2.2.2.2.2.2.2.2.2.1) (fun Xa=>(bd (g.ay (cat [] Bs.1.1) Xa.1.1) (fun Q0=>(br (af (ah 2 (bJ (cl .i64 (nth 0 a1 (nN v2.1.1))) 5))) (br (af Q1.1.1) (some ((false,()),(v3.2.1,(v3.2.2.1,(v3.2.2.2.1,(v3.2.2.2.2.1,(v3.2.2.2.2.2.1,(v4.2.2.2.2.2.2.1,v3.2.2.2.2.2.2)))))))) (br (af Q0.1.1) (some ((false,()),(v3.2.1,(v3.2.2.1,(v3.2.2.2.1,(v3.2.2.2.2.1,(v3.2.2.2.2.2.1,(v4.2.2.2.2.2.2.1,v3.2.2.2.2.2.2)))))))) (bd (g.ax v5 3 v3.2.1 v3.2.2.1 v3.2.2.2.1 v3.2.2.2.2.1 v3.2.2.2.2.2.1 v4.2.2.2.2.2.2.1 v3.2.2.2.2.2.2.1 v3.2.2.2.2.2.2.2.1 v3.2.2.2.2.2.2.2.2.1 v3.2.2.2.2.2.2.2.2.2.1) (fun W_=>(bd (g.av (cat [] nM.1.1) W_.1.1) (fun QZ=>(bd (g.ak v5 3 v3.2.1 v3.2.2.1 v3.2.2.2.1 v3.2.2.2.2.1 v3.2.2.2.2.2.1 v4.2.2.2.2.2.2.1 v3.2.2.2.2.2.2.1 v3.2.2.2.2.2.2.2.1 v3.2.2.2.2.2.2.2.2.1 v3.2.2.2.2.2.2.2.2.2.1) (fun W9=>(bd (g.ay (cat [] nL.1.1) W9.1.1) (fun QY=>(br (af (ah 3 (bJ (cl .i64 (nth 0 a1 (nN v2.1.1))) 5))) (br (af QZ.1.1) (some ((false,()),(v3.2.1,(v3.2.2.1,(v3.2.2.2.1,(v3.2.2.2.2.1,(v3.2.2.2.2.2.1,(v4.2.2.2.2.2.2.1,v3.2.2.2.2.2.2)))))))) (br (af QY.1.1) (some ((false,()),(v3.2.1,(v3.2.2.1,(v3.2.2.2.1,(v3.2.2.2.2.1,(v3.2.2.2.2.2.1,(v4.2.2.2.2.2.2.1,v3.2.2.2.2.2.2)))))))) (fE (((ae .i64 v2.1.1 1),()),((),((),((),v3.2))))))) (br (ah s.1.1 0) (br (af QZ.1.1) (some ((false,()),(v3.2.1,(v3.2.2.1,(v3.2.2.2.1,(v3.2.2.2.2.1,(v3.2.2.2.2.2.1,(v4.2.2.2.2.2.2.1,v3.2.2.2.2.2.2)))))))) (br (af QY.1.1) (some ((false,()),(v3.2.1,(v3.2.2.1,(v3.2.2.2.1,(v3.2.2.2.2.1,(v3.2.2.2.2.2.1,(v4.2.2.2.2.2.2.1,v3.2.2.2.2.2.2)))))))) (fE (((ae .i64 v2.1.1 1),()),((),((),((),v3.2))))))) (fE (((ae .i64 v2.1.1 1),()),((),((),((),v3.2))))))))))))))))) (br (ah s.1.1 0) (br (af Q1.1.1) (some ((false,()),(v3.2.1,(v3.2.2.1,(v3.2.2.2.1,(v3.2.2.2.2.1,(v3.2.2.2.2.2.1,(v4.2.2.2.2.2.2.1,v3.2.2.2.2.2.2)))))))) (br (af Q0.1.1) (some ((false,()),(v3.2.1,(v3.2.2.1,(v3.2.2.2.1,(v3.2.2.2.2.1,(v3.2.2.2.2.2.1,(v4.2.2.2.2.2.2.1,v3.2.2.2.2.2.2)))))))) (bd (g.ax v5 3 v3.2.1 v3.2.2.1 v3.2.2.2.1 v3.2.2.2.2.1 v3.2.2.2.2.2.1 v4.2.2.2.2.2.2.1 v3.2.2.2.2.2.2.1 v3.2.2.2.2.2.2.2.1 v3.2.2.2.2.2.2.2.2.1 v3.2.2.2.2.2.2.2.2.2.1) (fun W8=>(bd (g.av (cat [] nM.1.1) W8.1.1) (fun QX=>(bd (g.ak v5 3 v3.2.1 v3.2.2.1 v3.2.2.2.1 v3.2.2.2.2.1 v3.2.2.2.2.2.1 v4.2.2.2.2.2.2.1 v3.2.2.2.2.2.2.1 v3.2.2.2.2.2.2.2.1 v3.2.2.2.2.2.2.2.2.1 v3.2.2.2.2.2.2.2.2.2.1) (fun W7=>(bd (g.ay (cat [] nL.1.1) W7.1.1) (fun QW=>(br (af (ah 3 (bJ (cl .i64 (nth 0 a1 (nN v2.1.1))) 5))) (br (af QX.1.1) (some ((false,()),(v3.2.1,(v3.2.2.1,(v3.2.2.2.1,(v3.2.2.2.2.1,(v3.2.2.2.2.2.1,(v4.2.2.2.2.2.2.1,v3.2.2.2.2.2.2)))))))) (br (af QW.1.1) (some ((false,()),(v3.2.1,(v3.2.2.1,(v3.2.2.2.1,(v3.2.2.2.2.1,(v3.2.2.2.2.2.1,(v4.2.2.2.2.2.2.1,v3.2.2.2.2.2.2)))))))) (fE (((ae .i64 v2.1.1 1),()),((),((),((),v3.2))))))) (br (ah s.1.1 0) (br (af QX.1.1) (some ((false,()),(v3.2.1,(v3.2.2.1,(v3.2.2.2.1,(v3.2.2.2.2.1,(v3.2.2.2.2.2.1,(v4.2.2.2.2.2.2.1,v3.2.2.2.2.2.2)))))))) (br (af QW.1.1) (some ((false,()),(v3.2.1,(v3.2.2.1,(v3.2.2.2.1,(v3.2.2.2.2.1,(v3.2.2.2.2.2.1,(v4.2.2.2.2.2.2.1,v3.2.2.2.2.2.2)))))))) (fE (((ae .i64 v2.1.1 1),()),((),((),((),v3.2))))))) (fE (((ae .i64 v2.1.1 1),()),((),((),((),v3.2))))))))))))))))) (bd (g.ax v5 3 v3.2.1 v3.2.2.1 v3.2.2.2.1 v3.2.2.2.2.1 v3.2.2.2.2.2.1 v4.2.2.2.2.2.2.1 v3.2.2.2.2.2.2.1 v3.2.2.2.2.2.2.2.1 v3.2.2.2.2.2.2.2.2.1 v3.2.2.2.2.2.2.2.2.2.1) (fun W6=>(bd (g.av (cat [] nM.1.1) W6.1.1) (fun QV=>(bd (g.ak v5 3 v3.2.1 v3.2.2.1 v3.2.2.2.1 v3.2.2.2.2.1 v3.2.2.2.2.2.1 v4.2.2.2.2.2.2.1 v3.2.2.2.2.2.2.1 v3.2.2.2.2.2.2.2.1 v3.2.2.2.2.2.2.2.2.1 v3.2.2.2.2.2.2.2.2.2.1) (fun W5=>(bd (g.ay (cat [] nL.1.1) W5.1.1) (fun QU=>(br (af (ah 3 (bJ (cl .i64 (nth 0 a1 (nN v2.1.1))) 5))) (br (af QV.1.1) (some ((false,()),(v3.2.1,(v3.2.2.1,(v3.2.2.2.1,(v3.2.2.2.2.1,(v3.2.2.2.2.2.1,(v4.2.2.2.2.2.2.1,v3.2.2.2.2.2.2)))))))) (br (af QU.1.1) (some ((false,()),(v3.2.1,(v3.2.2.1,(v3.2.2.2.1,(v3.2.2.2.2.1,(v3.2.2.2.2.2.1,(v4.2.2.2.2.2.2.1,v3.2.2.2.2.2.2)))))))) (fE (((ae .i64 v2.1.1 1),()),((),((),((),v3.2))))))) (br (ah s.1.1 0) (br (af QV.1.1) (some ((false,()),(v3.2.1,(v3.2.2.1,(v3.2.2.2.1,(v3.2.2.2.2.1,(v3.2.2.2.2.2.1,(v4.2.2.2.2.2.2.1,v3.2.2.2.2.2.2)))))))) (br (af QU.1.1) (some ((false,()),(v3.2.1,(v3.2.2.1,(v3.2.2.2.1,(v3.2.2.2.2.1,(v3.2.2.2.2.2.1,(v4.2.2.2.2.2.2.1,v3.2.2.2.2.2.2)))))))) (fE (((ae .i64 v2.1.1 1),()),((),((),((),v3.2))))))) (fE (((ae .i64 v2.1.1 1),()),((),((),((),v3.2))))))))))))))))))))))))))))))))))))) (bd (g.ax v5 1 v3.2.1 v3.2.2.1 v3.2.2.2.1 v3.2.2.2.2.1 v3.2.2.2.2.2.1 v4.2.2.2.2.2.2.1 v3.2.2.2.2.2.2.1 v3.2.2.2.2.2.2.2.1 v3.2.2.2.2.2.2.2.2.1 v3.2.2.2.2.2.2.2.2.2.1) (fun W4=>(bd (g.av (cat [] v9.1.1) W4.1.1) (fun CI=>(bd (g.ak v5 1 v3.2.1 v3.2.2.1 v3.2.2.2.1 v3.2.2.2.2.1 v3.2.2.2.2.2.1 v4.2.2.2.2.2.2.1 v3.2.2.2.2.2.2.1 v3.2.2.2.2.2.2.2.1 v3.2.2.2.2.2.2.2.2.1 v3.2.2.2.2.2.2.2.2.2.1) (fun xa=>(bd (g.ay (cat [] v10.1.1) xa.1.1) (fun CH=>(br (af (ah 1 (bJ (cl .i64 (nth 0 a1 (nN v2.1.1))) 5))) (br (af CI.1.1) (some ((false,()),(v3.2.1,(v3.2.2.1,(v3.2.2.2.1,(v3.2.2.2.2.1,(v3.2.2.2.2.2.1,(v4.2.2.2.2.2.2.1,v3.2.2.2.2.2.2)))))))) (br (af CH.1.1) (some ((false,()),(v3.2.1,(v3.2.2.1,(v3.2.2.2.1,(v3.2.2.2.2.1,(v3.2.2.2.2.2.1,(v4.2.2.2.2.2.2.1,v3.2.2.2.2.2.2)))))))) (bd (g.ax v5 2 v3.2.1 v3.2.2.1 v3.2.2.2.1 v3.2.2.2.2.1 v3.2.2.2.2.2.1 v4.2.2.2.2.2.2.1 v3.2.2.2.2.2.2.1 v3.2.2.2.2.2.2.2.1 v3.2.2.2.2.2.2.2.2.1 v3.2.2.2.2.2.2.2.2.2.1) (fun W3=>(bd (g.av (cat [] v11.1.1) W3.1.1) (fun QT=>(bd (g.ak v5 2 v3.2.1 v3.2.2.1 v3.2.2.2.1 v3.2.2.2.2.1 v3.2.2.2.2.2.1 v4.2.2.2.2.2.2.1 v3.2.2.2.2.2.2.1 v3.2.2.2.2.2.2.2.1 v3.2.2.2.2.2.2.2.2.1 v3.2.2.2.2.2.2.2.2.2.1) (fun W2=>(bd (g.ay (cat [] Bs.1.1) W2.1.1) (fun QS=>(br (af (ah 2 (bJ (cl .i64 (nth 0 a1 (nN v2.1.1))) 5))) (br (af QT.1.1) (some ((false,()),(v3.2.1,(v3.2.2.1,(v3.2.2.2.1,(v3.2.2.2.2.1,(v3.2.2.2.2.2.1,(v4.2.2.2.2.2.2.1,v3.2.2.2.2.2.2)))))))) (br (af QS.1.1) (some ((false,()),(v3.2.1,(v3.2.2.1,(v3.2.2.2.1,(v3.2.2.2.2.1,(v3.2.2.2.2.2.1,(v4.2.2.2.2.2.2.1,v3.2.2.2.2.2.2)))))))) (bd (g.ax v5 3 v3.2.1 v3.2.2.1 v3.2.2.2.1 v3.2.2.2.2.1 v3.2.2.2.2.2.1 v4.2.2.2.2.2.2.1 v3.2.2.2.2.2.2.1 v3.2.2.2.2.2.2.2.1 v3.2.2.2.2.2.2.2.2.1 v3.2.2.2.2.2.2.2.2.2.1) (fun W1=>(bd (g.av (cat [] nM.1.1) W1.1.1) (fun QR=>(bd (g.ak v5 3 v3.2.1 v3.2.2.1 v3.2.2.2.1 v3.2.2.2.2.1 v3.2.2.2.2.2.1 v4.2.2.2.2.2.2.1 v3.2.2.2.2.2.2.1 v3.2.2.2.2.2.2.2.1 v3.2.2.2.2.2.2.2.2.1 v3.2.2.2.2.2.2.2.2.2.1) (fun W0=>(bd (g.ay (cat [] nL.1.1) W0.1.1) (fun QQ=>(br (af (ah 3 (bJ (cl .i64 (nth 0 a1 (nN v2.1.1))) 5))) (br (af QR.1.1) (some ((false,()),(v3.2.1,(v3.2.2.1,(v3.2.2.2.1,(v3.2.2.2.2.1,(v3.2.2.2.2.2.1,(v4.2.2.2.2.2.2.1,v3.2.2.2.2.2.2)))))))) (br (af QQ.1.1) (some ((false,()),(v3.2.1,(v3.2.2.1,(v3.2.2.2.1,(v3.2.2.2.2.1,(v3.2.2.2.2.2.1,(v4.2.2.2.2.2.2.1,v3.2.2.2.2.2.2)))))))) (fE (((ae .i64 v2.1.1 1),()),((),((),((),v3.2))))))) (br (ah s.1.1 0) (br (af QR.1.1) (some ((false,()),(v3.2.1,(v3.2.2.1,(v3.2.2.2.1,(v3.2.2.2.2.1,(v3.2.2.2.2.2.1,(v4.2.2.2.2.2.2.1,v3.2.2.2.2.2.2)))))))) (br (af QQ.1.1) (some ((false,()),(v3.2.1,(v3.2.2.1,(v3.2.2.2.1,(v3.2.2.2.2.1,(v3.2.2.2.2.2.1,(v4.2.2.2.2.2.2.1,v3.2.2.2.2.2.2)))))))) (fE (((ae .i64 v2.1.1 1),()),((),((),((),v3.2))))))) (fE (((ae .i64 v2.1.1 1),()),((),((),((),v3.2))))))))))))))))) (br (ah s.1.1 0) (br (af QT.1.1) (some ((false,()),(v3.2.1,(v3.2.2.1,(v3.2.2.2.1,(v3.2.2.2.2.1,(v3.2.2.2.2.2.1,(v4.2.2.2.2.2.2.1,v3.2.2.2.2.2.2)))))))) (br (af QS.1.1) (some ((false,()),(v3.2.1,(v3.2.2.1,(v3.2.2.2.1,(v3.2.2.2.2.1,(v3.2.2.2.2.2.1,(v4.2.2.2.2.2.2.1,v3.2.2.2.2.2.2)))))))) (bd (g.ax v5 3 v3.2.1 v3.2.2.1 v3.2.2.2.1 v3.2.2.2.2.1 v3.2.2.2.2.2.1 v4.2.2.2.2.2.2.1 v3.2.2.2.2.2.2.1 v3.2.2.2.2.2.2.2.1 v3.2.2.2.2.2.2.2.2.1 v3.2.2.2.2.2.2.2.2.2.1) (fun WZ=>(bd (g.av (cat [] nM.1.1) WZ.1.1) (fun QP=>(bd (g.ak v5 3 v3.2.1 v3.2.2.1 v3.2.2.2.1 v3.2.2.2.2.1 v3.2.2.2.2.2.1 v4.2.2.2.2.2.2.1 v3.2.2.2.2.2.2.1 v3.2.2.2.2.2.2.2.1 v3.2.2.2.2.2.2.2.2.1 v3.2.2.2.2.2.2.2.2.2.1) (fun WY=>(bd (g.ay (cat [] nL.1.1) WY.1.1) (fun QO=>(br (af (ah 3 (bJ (cl .i64 (nth 0 a1 (nN v2.1.1))) 5))) (br (af QP.1.1) (some ((false,()),(v3.2.1,(v3.2.2.1,(v3.2.2.2.1,(v3.2.2.2.2.1,(v3.2.2.2.2.2.1,(v4.2.2.2.2.2.2.1,v3.2.2.2.2.2.2)))))))) (br (af QO.1.1) (some ((false,()),(v3.2.1,(v3.2.2.1,(v3.2.2.2.1,(v3.2.2.2.2.1,(v3.2.2.2.2.2.1,(v4.2.2.2.2.2.2.1,v3.2.2.2.2.2.2)))))))) (fE (((ae .i64 v2.1.1 1),()),((),((),((),v3.2))))))) (br (ah s.1.1 0) (br (af QP.1.1) (some ((false,()),(v3.2.1,(v3.2.2.1,(v3.2.2.2.1,(v3.2.2.2.2.1,(v3.2.2.2.2.2.1,(v4.2.2.2.2.2.2.1,v3.2.2.2.2.2.2)))))))) (br (af QO.1.1) (some ((false,()),(v3.2.1,(v3.2.2.1,(v3.2.2.2.1,(v3.2.2.2.2.1,(v3.2.2.2.2.2.1,(v4.2.2.2.2.2.2.1,v3.2.2.2.2.2.2)))))))) (fE (((ae .i64 v2.1.1 1),()),((),((),((),v3.2))))))) (fE (((ae .i64 v2.1.1 1),()),((),((),((),v3.2))))))))))))))))) (bd (g.ax v5 3 v3.2.1 v3.2.2.1 v3.2.2.2.1 v3.2.2.2.2.1 v3.2.2.2.2.2.1 v4.2.2.2.2.2.2.1 v3.2.2.2.2.2.2.1 v3.2.2.2.2.2.2.2.1 v3.2.2.2.2.2.2.2.2.1 v3.2.2.2.2.2.2.2.2.2.1) (fun WX=>(bd (g.av (cat [] nM.1.1) WX.1.1) (fun QN=>(bd (g.ak v5 3 v3.2.1 v3.2.2.1 v3.2.2.2.1 v3.2.2.2.2.1 v3.2.2.2.2.2.1 v4.2.2.2.2.2.2.1 v3.2.2.2.2.2.2.1 v3.2.2.2.2.2.2.2.1 v3.2.2.2.2.2.2.2.2.1 v3.2.2.2.2.2.2.2.2.2.1) (fun WW=>(bd (g.ay (cat [] nL.1.1) WW.1.1) (fun QM=>(br (af (ah 3 (bJ (cl .i64 (nth 0 a1 (nN v2.1.1))) 5))) (br (af QN.1.1) (some ((false,()),(v3.2.1,(v3.2.2.1,(v3.2.2.2.1,(v3.2.2.2.2.1,(v3.2.2.2.2.2.1,(v4.2.2.2.2.2.2.1,v3.2.2.2.2.2.2)))))))) (br (af QM.1.1) (some ((false,()),(v3.2.1,(v3.2.2.1,(v3.2.2.2.1,(v3.2.2.2.2.1,(v3.2.2.2.2.2.1,(v4.2.2.2.2.2.2.1,v3.2.2.2.2.2.2)))))))) (fE (((ae .i64 v2.1.1 1),()),((),((),((),v3.2))))))) (br (ah s.1.1 0) (br (af QN.1.1) (some ((false,()),(v3.2.1,(v3.2.2.1,(v3.2.2.2.1,(v3.2.2.2.2.1,(v3.2.2.2.2.2.1,(v4.2.2.2.2.2.2.1,v3.2.2.2.2.2.2)))))))) (br (af QM.1.1) (some ((false,()),(v3.2.1,(v3.2.2.1,(v3.2.2.2.1,(v3.2.2.2.2.1,(v3.2.2.2.2.2.1,(v4.2.2.2.2.2.2.1,v3.2.2.2.2.2.2)))))))) (fE (((ae .i64 v2.1.1 1),()),((),((),((),v3.2))))))) (fE (((ae .i64 v2.1.1 1),()),((),((),((),v3.2))))))))))))))))))))))))))) (br (ah s.1.1 0) (br (af CI.1.1) (some ((false,()),(v3.2.1,(v3.2.2.1,(v3.2.2.2.1,(v3.2.2.2.2.1,(v3.2.2.2.2.2.1,(v4.2.2.2.2.2.2.1,v3.2.2.2.2.2.2)))))))) (br (af CH.1.1) (some ((false,()),(v3.2.1,(v3.2.2.1,(v3.2.2.2.1,(v3.2.2.2.2.1,(v3.2.2.2.2.2.1,(v4.2.2.2.2.2.2.1,v3.2.2.2.2.2.2)))))))) (bd (g.ax v5 2 v3.2.1 v3.2.2.1 v3.2.2.2.1 v3.2.2.2.2.1 v3.2.2.2.2.2.1 v4.2.2.2.2.2.2.1 v3.2.2.2.2.2.2.1 v3.2.2.2.2.2.2.2.1 v3.2.2.2.2.2.2.2.2.1 v3.2.2.2.2.2.2.2.2.2.1) (fun WV=>(bd (g.av (cat [] v11.1.1) WV.1.1) (fun QL=>(bd (g.ak v5 2 v3.2.1 v3.2.2.1 v3.2.2.2.1 v3.2.2.2.2.1 v3.2.2.2.2.2.1 v4.2.2.2.2.2.2.1 v3.2.2.2.2.2.2.1 v3.2.2.2.2.2.2.2.1 v3.2.2.2.2.2.2.2.2.1 v3.2.2.2.2.2.2.2.2.2.1) (fun WU=>(bd (g.ay (cat [] Bs.1.1) WU.1.1) (fun QK=>(br (af (ah 2 (bJ (cl .i64 (nth 0 a1 (nN v2.1.1))) 5))) (br (af QL.1.1) (some ((false,()),(v3.2.1,(v3.2.2.1,(v3.2.2.2.1,(v3.2.2.2.2.1,(v3.2.2.2.2.2.1,(v4.2.2.2.2.2.2.1,v3.2.2.2.2.2.2)))))))) (br (af QK.1.1) (some ((false,()),(v3.2.1,(v3.2.2.1,(v3.2.2.2.1,(v3.2.2.2.2.1,(v3.2.2.2.2.2.1,(v4.2.2.2.2.2.2.1,v3.2.2.2.2.2.2)))))))) (bd (g.ax v5 3 v3.2.1 v3.2.2.1 v3.2.2.2.1 v3.2.2.2.2.1 v3.2.2.2.2.2.1 v4.2.2.2.2.2.2.1 v3.2.2.2.2.2.2.1 v3.2.2.2.2.2.2.2.1 v3.2.2.2.2.2.2.2.2.1 v3.2.2.2.2.2.2.2.2.2.1) (fun WT=>(bd (g.av (cat [] nM.1.1) WT.1.1) (fun QJ=>(bd (g.ak v5 3 v3.2.1 v3.2.2.1 v3.2.2.2.1 v3.2.2.2.2.1 v3.2.2.2.2.2.1 v4.2.2.2.2.2.2.1 v3.2.2.2.2.2.2.1 v3.2.2.2.2.2.2.2.1 v3.2.2.2.2.2.2.2.2.1 v3.2.2.2.2.2.2.2.2.2.1) (fun WR=>(bd (g.ay (cat [] nL.1.1) WR.1.1) (fun QI=>(br (af (ah 3 (bJ (cl .i64 (nth 0 a1 (nN v2.1.1))) 5))) (br (af QJ.1.1) (some ((false,()),(v3.2.1,(v3.2.2.1,(v3.2.2.2.1,(v3.2.2.2.2.1,(v3.2.2.2.2.2.1,(v4.2.2.2.2.2.2.1,v3.2.2.2.2.2.2)))))))) (br (af QI.1.1) (some ((false,()),(v3.2.1,(v3.2.2.1,(v3.2.2.2.1,(v3.2.2.2.2.1,(v3.2.2.2.2.2.1,(v4.2.2.2.2.2.2.1,v3.2.2.2.2.2.2)))))))) (fE (((ae .i64 v2.1.1 1),()),((),((),((),v3.2))))))) (br (ah s.1.1 0) (br (af QJ.1.1) (some ((false,()),(v3.2.1,(v3.2.2.1,(v3.2.2.2.1,(v3.2.2.2.2.1,(v3.2.2.2.2.2.1,(v4.2.2.2.2.2.2.1,v3.2.2.2.2.2.2)))))))) (br (af QI.1.1) (some ((false,()),(v3.2.1,(v3.2.2.1,(v3.2.2.2.1,(v3.2.2.2.2.1,(v3.2.2.2.2.2.1,(v4.2.2.2.2.2.2.1,v3.2.2.2.2.2.2)))))))) (fE (((ae .i64 v2.1.1 1),()),((),((),((),v3.2))))))) (fE (((ae .i64 v2.1.1 1),()),((),((),((),v3.2))))))))))))))))) (br (ah s.1.1 0) (br (af QL.1.1) (some ((false,()),(v3.2.1,(v3.2.2.1,(v3.2.2.2.1,(v3.2.2.2.2.1,(v3.2.2.2.2.2.1,(v4.2.2.2.2.2.2.1,v3.2.2.2.2.2.2)))))))) (br (af QK.1.1) (some ((false,()),(v3.2.1,(v3.2.2.1,(v3.2.2.2.1,(v3.2.2.2.2.1,(v3.2.2.2.2.2.1,(v4.2.2.2.2.2.2.1,v3.2.2.2.2.2.2)))))))) (bd (g.ax v5 3 v3.2.1 v3.2.2.1 v3.2.2.2.1 v3.2.2.2.2.1 v3.2.2.2.2.2.1 v4.2.2.2.2.2.2.1 v3.2.2.2.2.2.2.1 v3.2.2.2.2.2.2.2.1 v3.2.2.2.2.2.2.2.2.1 v3.2.2.2.2.2.2.2.2.2.1) (fun WQ=>(bd (g.av (cat [] nM.1.1) WQ.1.1) (fun QH=>(bd (g.ak v5 3 v3.2.1 v3.2.2.1 v3.2.2.2.1 v3.2.2.2.2.1 v3.2.2.2.2.2.1 v4.2.2.2.2.2.2.1 v3.2.2.2.2.2.2.1 v3.2.2.2.2.2.2.2.1 v3.2.2.2.2.2.2.2.2.1 v3.2.2.2.2.2.2.2.2.2.1) (fun WO=>(bd (g.ay (cat [] nL.1.1) WO.1.1) (fun QG=>(br (af (ah 3 (bJ (cl .i64 (nth 0 a1 (nN v2.1.1))) 5))) (br (af QH.1.1) (some ((false,()),(v3.2.1,(v3.2.2.1,(v3.2.2.2.1,(v3.2.2.2.2.1,(v3.2.2.2.2.2.1,(v4.2.2.2.2.2.2.1,v3.2.2.2.2.2.2)))))))) (br (af QG.1.1) (some ((false,()),(v3.2.1,(v3.2.2.1,(v3.2.2.2.1,(v3.2.2.2.2.1,(v3.2.2.2.2.2.1,(v4.2.2.2.2.2.2.1,v3.2.2.2.2.2.2)))))))) (fE (((ae .i64 v2.1.1 1),()),((),((),((),v3.2))))))) (br (ah s.1.1 0) (br (af QH.1.1) (some ((false,()),(v3.2.1,(v3.2.2.1,(v3.2.2.2.1,(v3.2.2.2.2.1,(v3.2.2.2.2.2.1,(v4.2.2.2.2.2.2.1,v3.2.2.2.2.2.2)))))))) (br (af QG.1.1) (some ((false,()),(v3.2.1,(v3.2.2.1,(v3.2.2.2.1,(v3.2.2.2.2.1,(v3.2.2.2.2.2.1,(v4.2.2.2.2.2.2.1,v3.2.2.2.2.2.2)))))))) (fE (((ae .i64 v2.1.1 1),()),((),((),((),v3.2))))))) (fE (((ae .i64 v2.1.1 1),()),((),((),((),v3.2))))))))))))))))) (bd (g.ax v5 3 v3.2.1 v3.2.2.1 v3.2.2.2.1 v3.2.2.2.2.1 v3.2.2.2.2.2.1 v4.2.2.2.2.2.2.1 v3.2.2.2.2.2.2.1 v3.2.2.2.2.2.2.2.1 v3.2.2.2.2.2.2.2.2.1 v3.2.2.2.2.2.2.2.2.2.1) (fun Ah=>(bd (g.av (cat [] nM.1.1) Ah.1.1) (fun QF=>(bd (g.ak v5 3 v3.2.1 v3.2.2.1 v3.2.2.2.1 v3.2.2.2.2.1 v3.2.2.2.2.2.1 v4.2.2.2.2.2.2.1 v3.2.2.2.2.2.2.1 v3.2.2.2.2.2.2.2.1 v3.2.2.2.2.2.2.2.2.1 v3.2.2.2.2.2.2.2.2.2.1) (fun WN=>(bd (g.ay (cat [] nL.1.1) WN.1.1) (fun QE=>(br (af (ah 3 (bJ (cl .i64 (nth 0 a1 (nN v2.1.1))) 5))) (br (af QF.1.1) (some ((false,()),(v3.2.1,(v3.2.2.1,(v3.2.2.2.1,(v3.2.2.2.2.1,(v3.2.2.2.2.2.1,(v4.2.2.2.2.2.2.1,v3.2.2.2.2.2.2)))))))) (br (af QE.1.1) (some ((false,()),(v3.2.1,(v3.2.2.1,(v3.2.2.2.1,(v3.2.2.2.2.1,(v3.2.2.2.2.2.1,(v4.2.2.2.2.2.2.1,v3.2.2.2.2.2.2)))))))) (fE (((ae .i64 v2.1.1 1),()),((),((),((),v3.2))))))) (br (ah s.1.1 0) (br (af QF.1.1) (some ((false,()),(v3.2.1,(v3.2.2.1,(v3.2.2.2.1,(v3.2.2.2.2.1,(v3.2.2.2.2.2.1,(v4.2.2.2.2.2.2.1,v3.2.2.2.2.2.2)))))))) (br (af QE.1.1) (some ((false,()),(v3.2.1,(v3.2.2.1,(v3.2.2.2.1,(v3.2.2.2.2.1,(v3.2.2.2.2.2.1,(v4.2.2.2.2.2.2.1,v3.2.2.2.2.2.2)))))))) (fE (((ae .i64 v2.1.1 1),()),((),((),((),v3.2))))))) (fE (((ae .i64 v2.1.1 1),()),((),((),((),v3.2))))))))))))))))))))))))))) (bd (g.ax v5 2 v3.2.1 v3.2.2.1 v3.2.2.2.1 v3.2.2.2.2.1 v3.2.2.2.2.2.1 v4.2.2.2.2.2.2.1 v3.2.2.2.2.2.2.1 v3.2.2.2.2.2.2.2.1 v3.2.2.2.2.2.2.2.2.1 v3.2.2.2.2.2.2.2.2.2.1) (fun WM=>(bd (g.av (cat [] v11.1.1) WM.1.1) (fun QD=>(bd (g.ak v5 2 v3.2.1 v3.2.2.1 v3.2.2.2.1 v3.2.2.2.2.1 v3.2.2.2.2.2.1 v4.2.2.2.2.2.2.1 v3.2.2.2.2.2.2.1 v3.2.2.2.2.2.2.2.1 v3.2.2.2.2.2.2.2.2.1 v3.2.2.2.2.2.2.2.2.2.1) (fun WL=>(bd (g.ay (cat [] Bs.1.1) WL.1.1) (fun QC=>(br (af (ah 2 (bJ (cl .i64 (nth 0 a1 (nN v2.1.1))) 5))) (br (af QD.1.1) (some ((false,()),(v3.2.1,(v3.2.2.1,(v3.2.2.2.1,(v3.2.2.2.2.1,(v3.2.2.2.2.2.1,(v4.2.2.2.2.2.2.1,v3.2.2.2.2.2.2)))))))) (br (af QC.1.1) (some ((false,()),(v3.2.1,(v3.2.2.1,(v3.2.2.2.1,(v3.2.2.2.2.1,(v3.2.2.2.2.2.1,(v4.2.2.2.2.2.2.1,v3.2.2.2.2.2.2)))))))) (bd (g.ax v5 3 v3.2.1 v3.2.2.1 v3.2.2.2.1 v3.2.2.2.2.1 v3.2.2.2.2.2.1 v4.2.2.2.2.2.2.1 v3.2.2.2.2.2.2.1 v3.2.2.2.2.2.2.2.1 v3.2.2.2.2.2.2.2.2.1 v3.2.2.2.2.2.2.2.2.2.1) (fun WK=>(bd (g.av (cat [] nM.1.1) WK.1.1) (fun QB=>(bd (g.ak v5 3 v3.2.1 v3.2.2.1 v3.2.2.2.1 v3.2.2.2.2.1 v3.2.2.2.2.2.1 v4.2.2.2.2.2.2.1 v3.2.2.2.2.2.2.1 v3.2.2.2.2.2.2.2.1 v3.2.2.2.2.2.2.2.2.1 v3.2.2.2.2.2.2.2.2.2.1) (fun WJ=>(bd (g.ay (cat [] nL.1.1) WJ.1.1) (fun QA=>(br (af (ah 3 (bJ (cl .i64 (nth 0 a1 (nN v2.1.1))) 5))) (br (af QB.1.1) (some ((false,()),(v3.2.1,(v3.2.2.1,(v3.2.2.2.1,(v3.2.2.2.2.1,(v3.2.2.2.2.2.1,(v4.2.2.2.2.2.2.1,v3.2.2.2.2.2.2)))))))) (br (af QA.1.1) (some ((false,()),(v3.2.1,(v3.2.2.1,(v3.2.2.2.1,(v3.2.2.2.2.1,(v3.2.2.2.2.2.1,(v4.2.2.2.2.2.2.1,v3.2.2.2.2.2.2)))))))) (fE (((ae .i64 v2.1.1 1),()),((),((),((),v3.2))))))) (br (ah s.1.1 0) (br (af QB.1.1) (some ((false,()),(v3.2.1,(v3.2.2.1,(v3.2.2.2.1,(v3.2.2.2.2.1,(v3.2.2.2.2.2.1,(v4.2.2.2.2.2.2.1,v3.2.2.2.2.2.2)))))))) (br (af QA.1.1) (some ((false,()),(v3.2.1,(v3.2.2.1,(v3.2.2.2.1,(v3.2.2.2.2.1,(v3.2.2.2.2.2.1,(v4.2.2.2.2.2.2.1,v3.2.2.2.2.2.2)))))))) (fE (((ae .i64 v2.1.1 1),()),((),((),((),v3.2))))))) (fE (((ae .i64 v2.1.1 1),()),((),((),((),v3.2))))))))))))))))) (br (ah s.1.1 0) (br (af QD.1.1) (some ((false,()),(v3.2.1,(v3.2.2.1,(v3.2.2.2.1,(v3.2.2.2.2.1,(v3.2.2.2.2.2.1,(v4.2.2.2.2.2.2.1,v3.2.2.2.2.2.2)))))))) (br (af QC.1.1) (some ((false,()),(v3.2.1,(v3.2.2.1,(v3.2.2.2.1,(v3.2.2.2.2.1,(v3.2.2.2.2.2.1,(v4.2.2.2.2.2.2.1,v3.2.2.2.2.2.2)))))))) (bd (g.ax v5 3 v3.2.1 v3.2.2.1 v3.2.2.2.1 v3.2.2.2.2.1 v3.2.2.2.2.2.1 v4.2.2.2.2.2.2.1 v3.2.2.2.2.2.2.1 v3.2.2.2.2.2.2.2.1 v3.2.2.2.2.2.2.2.2.1 v3.2.2.2.2.2.2.2.2.2.1) (fun WH=>(bd (g.av (cat [] nM.1.1) WH.1.1) (fun Qz=>(bd (g.ak v5 3 v3.2.1 v3.2.2.1 v3.2.2.2.1 v3.2.2.2.2.1 v3.2.2.2.2.2.1 v4.2.2.2.2.2.2.1 v3.2.2.2.2.2.2.1 v3.2.2.2.2.2.2.2.1 v3.2.2.2.2.2.2.2.2.1 v3.2.2.2.2.2.2.2.2.2.1) (fun WG=>(bd (g.ay (cat [] nL.1.1) WG.1.1) (fun Qy=>(br (af (ah 3 (bJ (cl .i64 (nth 0 a1 (nN v2.1.1))) 5))) (br (af Qz.1.1) (some ((false,()),(v3.2.1,(v3.2.2.1,(v3.2.2.2.1,(v3.2.2.2.2.1,(v3.2.2.2.2.2.1,(v4.2.2.2.2.2.2.1,v3.2.2.2.2.2.2)))))))) (br (af Qy.1.1) (some ((false,()),(v3.2.1,(v3.2.2.1,(v3.2.2.2.1,(v3.2.2.2.2.1,(v3.2.2.2.2.2.1,(v4.2.2.2.2.2.2.1,v3.2.2.2.2.2.2)))))))) (fE (((ae .i64 v2.1.1 1),()),((),((),((),v3.2))))))) (br (ah s.1.1 0) (br (af Qz.1.1) (some ((false,()),(v3.2.1,(v3.2.2.1,(v3.2.2.2.1,(v3.2.2.2.2.1,(v3.2.2.2.2.2.1,(v4.2.2.2.2.2.2.1,v3.2.2.2.2.2.2)))))))) (br (af Qy.1.1) (some ((false,()),(v3.2.1,(v3.2.2.1,(v3.2.2.2.1,(v3.2.2.2.2.1,(v3.2.2.2.2.2.1,(v4.2.2.2.2.2.2.1,v3.2.2.2.2.2.2)))))))) (fE (((ae .i64 v2.1.1 1),()),((),((),((),v3.2))))))) (fE (((ae .i64 v2.1.1 1),()),((),((),((),v3.2))))))))))))))))) (bd (g.ax v5 3 v3.2.1 v3.2.2.1 v3.2.2.2.1 v3.2.2.2.2.1 v3.2.2.2.2.2.1 v4.2.2.2.2.2.2.1 v3.2.2.2.2.2.2.1 v3.2.2.2.2.2.2.2.1 v3.2.2.2.2.2.2.2.2.1 v3.2.2.2.2.2.2.2.2.2.1) (fun WE=>(bd (g.av (cat [] nM.1.1) WE.1.1) (fun Qx=>(bd (g.ak v5 3 v3.2.1 v3.2.2.1 v3.2.2.2.1 v3.2.2.2.2.1 v3.2.2.2.2.2.1 v4.2.2.2.2.2.2.1 v3.2.2.2.2.2.2.1 v3.2.2.2.2.2.2.2.1 v3.2.2.2.2.2.2.2.2.1 v3.2.2.2.2.2.2.2.2.2.1) (fun WD=>(bd (g.ay (cat [] nL.1.1) WD.1.1) (fun Qw=>(br (af (ah 3 (bJ (cl .i64 (nth 0 a1 (nN v2.1.1))) 5))) (br (af Qx.1.1) (some ((false,()),(v3.2.1,(v3.2.2.1,(v3.2.2.2.1,(v3.2.2.2.2.1,(v3.2.2.2.2.2.1,(v4.2.2.2.2.2.2.1,v3.2.2.2.2.2.2)))))))) (br (af Qw.1.1) (some ((false,()),(v3.2.1,(v3.2.2.1,(v3.2.2.2.1,(v3.2.2.2.2.1,(v3.2.2.2.2.2.1,(v4.2.2.2.2.2.2.1,v3.2.2.2.2.2.2)))))))) (fE (((ae .i64 v2.1.1 1),()),((),((),((),v3.2))))))) (br (ah s.1.1 0) (br (af Qx.1.1) (some ((false,()),(v3.2.1,(v3.2.2.1,(v3.2.2.2.1,(v3.2.2.2.2.1,(v3.2.2.2.2.2.1,(v4.2.2.2.2.2.2.1,v3.2.2.2.2.2.2)))))))) (br (af Qw.1.1) (some ((false,()),(v3.2.1,(v3.2.2.1,(v3.2.2.2.1,(v3.2.2.2.2.1,(v3.2.2.2.2.2.1,(v4.2.2.2.2.2.2.1,v3.2.2.2.2.2.2)))))))) (fE (((ae .i64 v2.1.1 1),()),((),((),((),v3.2))))))) (fE (((ae .i64 v2.1.1 1),()),((),((),((),v3.2))))))))))))))))))))))))))))))))))))))))))))))))
def g.fg (a1:(List Int)) (v0:U6) (v1:Nat) (k:(Mv→Fm)) (s:Mv):Fm:=(jn (fun (k0:(Unit×U2)→_)=>(br (bb s.1.1 (zN (len a1))) (br (bb s.1.1 200) (k0 ((),((),((),((),()))))) (some ((true,()),(s.2.2.2.2.1,(s.2.2.2.2.2.1,(s.2.2.2.2.2.2.1,(s.2.2.2.2.2.2.2.1,(s.2.2.2.2.2.2.2.2.1,(v0.2.2.2.2.2.2.1,s.2.2.2.2.2.2.2.2.2))))))))) (some ((true,()),(s.2.2.2.2.1,(s.2.2.2.2.2.1,(s.2.2.2.2.2.2.1,(s.2.2.2.2.2.2.2.1,(s.2.2.2.2.2.2.2.2.1,(v0.2.2.2.2.2.2.1,s.2.2.2.2.2.2.2.2.2)))))))))) (fun (s1:(Unit×U2))=>(gd (bn s.1.1) (gd (bo (nN s.1.1) (len a1)) (bd (g.ax v1 0 s.2.2.2.2.1 s.2.2.2.2.2.1 s.2.2.2.2.2.2.1 s.2.2.2.2.2.2.2.1 s.2.2.2.2.2.2.2.2.1 v0.2.2.2.2.2.2.1 s.2.2.2.2.2.2.2.2.2.1 s.2.2.2.2.2.2.2.2.2.2.1 s.2.2.2.2.2.2.2.2.2.2.2.1 s.2.2.2.2.2.2.2.2.2.2.2.2.1) (fun p2=>(gd (bt (aN 0 (len p2.1.1)) 16777216) (bd (g.ak v1 0 s.2.2.2.2.1 s.2.2.2.2.2.1 s.2.2.2.2.2.2.1 s.2.2.2.2.2.2.2.1 s.2.2.2.2.2.2.2.2.1 v0.2.2.2.2.2.2.1 s.2.2.2.2.2.2.2.2.2.1 s.2.2.2.2.2.2.2.2.2.2.1 s.2.2.2.2.2.2.2.2.2.2.2.1 s.2.2.2.2.2.2.2.2.2.2.2.2.1) (fun p3=>(gd (bt (aN 0 (len p3.1.1)) 16777216) (bd (g.ax v1 1 s.2.2.2.2.1 s.2.2.2.2.2.1 s.2.2.2.2.2.2.1 s.2.2.2.2.2.2.2.1 s.2.2.2.2.2.2.2.2.1 v0.2.2.2.2.2.2.1 s.2.2.2.2.2.2.2.2.2.1 s.2.2.2.2.2.2.2.2.2.2.1 s.2.2.2.2.2.2.2.2.2.2.2.1 s.2.2.2.2.2.2.2.2.2.2.2.2.1) (fun p4=>(gd (bt (aN 0 (len p4.1.1)) 16777216) (bd (g.ak v1 1 s.2.2.2.2.1 s.2.2.2.2.2.1 s.2.2.2.2.2.2.1 s.2.2.2.2.2.2.2.1 s.2.2.2.2.2.2.2.2.1 v0.2.2.2.2.2.2.1 s.2.2.2.2.2.2.2.2.2.1 s.2.2.2.2.2.2.2.2.2.2.1 s.2.2.2.2.2.2.2.2.2.2.2.1 s.2.2.2.2.2.2.2.2.2.2.2.2.1) (fun p5=>(gd (bt (aN 0 (len p5.1.1)) 16777216) (bd (g.ax v1 2 s.2.2.2.2.1 s.2.2.2.2.2.1 s.2.2.2.2.2.2.1 s.2.2.2.2.2.2.2.1 s.2.2.2.2.2.2.2.2.1 v0.2.2.2.2.2.2.1 s.2.2.2.2.2.2.2.2.2.1 s.2.2.2.2.2.2.2.2.2.2.1 s.2.2.2.2.2.2.2.2.2.2.2.1 s.2.2.2.2.2.2.2.2.2.2.2.2.1) (fun p6=>(gd (bt (aN 0 (len p6.1.1)) 16777216) (bd (g.ak v1 2 s.2.2.2.2.1 s.2.2.2.2.2.1 s.2.2.2.2.2.2.1 s.2.2.2.2.2.2.2.1 s.2.2.2.2.2.2.2.2.1 v0.2.2.2.2.2.2.1 s.2.2.2.2.2.2.2.2.2.1 s.2.2.2.2.2.2.2.2.2.2.1 s.2.2.2.2.2.2.2.2.2.2.2.1 s.2.2.2.2.2.2.2.2.2.2.2.2.1) (fun p7=>(gd (bt (aN 0 (len p7.1.1)) 16777216) (bd (g.ax v1 3 s.2.2.2.2.1 s.2.2.2.2.2.1 s.2.2.2.2.2.2.1 s.2.2.2.2.2.2.2.1 s.2.2.2.2.2.2.2.2.1 v0.2.2.2.2.2.2.1 s.2.2.2.2.2.2.2.2.2.1 s.2.2.2.2.2.2.2.2.2.2.1 s.2.2.2.2.2.2.2.2.2.2.2.1 s.2.2.2.2.2.2.2.2.2.2.2.2.1) (fun p8=>(gd (bt (aN 0 (len p8.1.1)) 16777216) (bd (g.ak v1 3 s.2.2.2.2.1 s.2.2.2.2.2.1 s.2.2.2.2.2.2.1 s.2.2.2.2.2.2.2.1 s.2.2.2.2.2.2.2.2.1 v0.2.2.2.2.2.2.1 s.2.2.2.2.2.2.2.2.2.1 s.2.2.2.2.2.2.2.2.2.2.1 s.2.2.2.2.2.2.2.2.2.2.2.1 s.2.2.2.2.2.2.2.2.2.2.2.2.1) (fun p9=>(gd (bt (aN 0 (len p9.1.1)) 16777216) (bd (g.di v1 s.2.2.2.2.1 s.2.2.2.2.2.1 s.2.2.2.2.2.2.1 s.2.2.2.2.2.2.2.1 s.2.2.2.2.2.2.2.2.1 v0.2.2.2.2.2.2.1 s.2.2.2.2.2.2.2.2.2.1 s.2.2.2.2.2.2.2.2.2.2.1 s.2.2.2.2.2.2.2.2.2.2.2.1 s.2.2.2.2.2.2.2.2.2.2.2.2.1) (fun fm=>(bd (g.cH v1 s.2.2.2.2.1 s.2.2.2.2.2.1 s.2.2.2.2.2.2.1 s.2.2.2.2.2.2.2.1 s.2.2.2.2.2.2.2.2.1 v0.2.2.2.2.2.2.1 s.2.2.2.2.2.2.2.2.2.1 s.2.2.2.2.2.2.2.2.2.2.1 s.2.2.2.2.2.2.2.2.2.2.2.1 s.2.2.2.2.2.2.2.2.2.2.2.2.1) (fun j7=>(bd (g.bU v1 (bJ (cl .i64 (nth 0 a1 (nN s.1.1))) 5) v0.2.2.2.2.2.2.1 s.2.2.2.2.1 s.2.2.2.2.2.1 s.2.2.2.2.2.2.1 s.2.2.2.2.2.2.2.1 s.2.2.2.2.2.2.2.2.1 s.2.2.2.2.2.2.2.2.2.1 s.2.2.2.2.2.2.2.2.2.2.1 s.2.2.2.2.2.2.2.2.2.2.2.1 s.2.2.2.2.2.2.2.2.2.2.2.2.1) (fun b9=>(bd (g.di v1 b9.2.1 b9.2.2.1 b9.2.2.2.1 b9.2.2.2.2.1 b9.2.2.2.2.2.1 v0.2.2.2.2.2.2.1 b9.2.2.2.2.2.2.1 b9.2.2.2.2.2.2.2.1 b9.2.2.2.2.2.2.2.2.1 b9.2.2.2.2.2.2.2.2.2.1) (fun cm=>(loop (g.fh a1 cm fm s b9 v0 v1 j7 p2 p3 p4 p5 p6 p7 p8 p9 k) ((0,(0,())),((),((),((),())))))))))))))))))))))))))))))))))))))))))
def g.kE (a1:(List Int)) (v0:U6) (k:(Mv→Fm)) (s:Mv):Fm:=(jn (fun (k0:(Unit×U2)→_)=>(br (bb s.1.1 (zN (len a1))) (br (bb s.1.1 200) (k0 ((),((),((),((),()))))) (some ((true,()),(s.2.2.2.2.1,(s.2.2.2.2.2.1,(s.2.2.2.2.2.2.1,(s.2.2.2.2.2.2.2.1,(s.2.2.2.2.2.2.2.2.1,(v0.2.2.2.2.2.2.1,s.2.2.2.2.2.2.2.2.2))))))))) (some ((true,()),(s.2.2.2.2.1,(s.2.2.2.2.2.1,(s.2.2.2.2.2.2.1,(s.2.2.2.2.2.2.2.1,(s.2.2.2.2.2.2.2.2.1,(v0.2.2.2.2.2.2.1,s.2.2.2.2.2.2.2.2.2)))))))))) (fun (s1:(Unit×U2))=>(gd (bn s.1.1) (gd (bo (nN s.1.1) (len a1)) none))))
def g.gy (a0:((Int×U4)×((List (List U4))×U8))) (a1:(List Int)) (d0:T0) (d1:T1) (d2:T2) (d3:T3) (d4:T4) (d5:T5) (d6:T6) (d7:T7) (d8:T2) (d9:T9):Fm:=(bd (g.cy d0 d1 d2 d3 d4 d5 d6 d7 d8 d9) (fun p0=>(bd (g.gZ a0) (fun p1=>(bd (g.iK p1.1.1 p1.1.2.1 p1.1.2.2.1 p0.2.2.2.2.2.2.2.2.1 p0.2.1 p0.2.2.1 p0.2.2.2.1 p0.2.2.2.2.1 p0.2.2.2.2.2.1 p0.2.2.2.2.2.2.1 p0.2.2.2.2.2.2.2.1 p0.2.2.2.2.2.2.2.2.2.1 p0.2.2.2.2.2.2.2.2.2.2.1) (fun p2=>(opt p2.1.1 (jn (fun (k3:(Unit×U2)→_)=>(br (af p0.1.1) (some ((false,()),(p2.2.1,(p2.2.2.1,(p2.2.2.2.1,(p2.2.2.2.2.1,(p2.2.2.2.2.2.1,(p2.2.2.2.2.2.2.1,(p2.2.2.2.2.2.2.2.1,(p0.2.2.2.2.2.2.2.2.1,(p2.2.2.2.2.2.2.2.2.1,(p2.2.2.2.2.2.2.2.2.2.1,())))))))))))) (some ((false,()),(p2.2.1,(p2.2.2.1,(p2.2.2.2.1,(p2.2.2.2.2.1,(p2.2.2.2.2.2.1,(p2.2.2.2.2.2.2.1,(p2.2.2.2.2.2.2.2.1,(p0.2.2.2.2.2.2.2.2.1,(p2.2.2.2.2.2.2.2.2.1,(p2.2.2.2.2.2.2.2.2.2.1,())))))))))))))) (fun (s4:(Unit×U2))=>(loop (g.kE a1 p2) ((0,()),((),((),((),(p2.2.1,(p2.2.2.1,(p2.2.2.2.1,(p2.2.2.2.2.1,(p2.2.2.2.2.2.1,(p2.2.2.2.2.2.2.2.1,(p0.2.2.2.2.2.2.2.2.1,(p2.2.2.2.2.2.2.2.2.1,(p2.2.2.2.2.2.2.2.2.2.1,())))))))))))))))) (fun p9=>(jn (fun (k10:(Unit×U2)→_)=>(br (af p0.1.1) (some ((false,()),(p2.2.1,(p2.2.2.1,(p2.2.2.2.1,(p2.2.2.2.2.1,(p2.2.2.2.2.2.1,(p2.2.2.2.2.2.2.1,(p2.2.2.2.2.2.2.2.1,(p0.2.2.2.2.2.2.2.2.1,(p2.2.2.2.2.2.2.2.2.1,(p2.2.2.2.2.2.2.2.2.2.1,())))))))))))) (br (af (ah p2.1.2.1 0)) (some ((false,()),(p2.2.1,(p2.2.2.1,(p2.2.2.2.1,(p2.2.2.2.2.1,(p2.2.2.2.2.2.1,(p2.2.2.2.2.2.2.1,(p2.2.2.2.2.2.2.2.1,(p0.2.2.2.2.2.2.2.2.1,(p2.2.2.2.2.2.2.2.2.1,(p2.2.2.2.2.2.2.2.2.2.1,())))))))))))) (k10 ((),((),((),((),())))))))) (fun (aM:(Unit×U2))=>(loop (g.fg a1 p2 p9) ((0,()),((),((),((),(p2.2.1,(p2.2.2.1,(p2.2.2.2.1,(p2.2.2.2.2.1,(p2.2.2.2.2.2.1,(p2.2.2.2.2.2.2.2.1,(p0.2.2.2.2.2.2.2.2.1,(p2.2.2.2.2.2.2.2.2.1,(p2.2.2.2.2.2.2.2.2.2.1,()))))))))))))))))))))))))
def F5:Plain sg5:=fun x c d=>g.gy x.1 x.2.1 d.1 d.2.1 d.2.2.1 d.2.2.2.1 d.2.2.2.2.1 d.2.2.2.2.2.1 d.2.2.2.2.2.2.1 d.2.2.2.2.2.2.2.1 d.2.2.2.2.2.2.2.2.1 d.2.2.2.2.2.2.2.2.2.1
theorem ct5:bG Tryz.prog 5 sg5 F5:=bW (aw ct7 (aw ct8 (aw ct9 (aw Uo (aw Uk (aw aaz (aw aay (aw aax (aw aaw (aw aav (aQ))))))))))) fun x c d=>by kernel_rfl
open Go.Bm Go.oT
def Hd (p:m5):m5:=(1+p.1%8,(1+p.2.1%4,(8*(p.2.2.1%64),8*(p.2.2.2%128))))
theorem xC (p:m5):eQ (Hd p)=true:=by
 rw [gu];unfold Hd;simp only;omega
theorem vb (p:m5):g.gY p=some ((Hd p,()),()):=by
 unfold g.gY
 rw [kB 3 (by omega) (by decide),kB 2 (by omega) (by decide),kB 6 (by omega) (by decide),kB 7 (by omega) (by decide)]
 rw [a_ (by omega),a_ (by omega),dk (by omega),dk (by omega)]
 rfl
def oE (o:oU):oU:=
 if o.1%5=0 then (o.1%5,(o.2.1%64,0)) else if o.1%5=1 then (o.1%5,(o.2.1%8%6,0)) else if o.1%5=2 then (o.1%5,(o.2.1%8%6,o.2.2%8%6))
 else if o.1%5=3 then (o.1%5,(o.2.1%8%6,o.2.2%8)) else (o.1%5,(0,0))
def kL (l:List oU):List oU:=(l.take 8).map oE
def AY (f:List (List oU)):List (List oU):=(f.take 8).map kL
theorem vU (o:oU):mM (oE o):=by
 have e0:o.1%5=0∨o.1%5=1∨o.1%5=2∨o.1%5=3∨o.1%5=4:=by omega
 unfold oE
 rcases e0 with h | h | h | h | h
 ·rw [if_pos h];refine .inl ⟨h,?_,?_,rfl⟩<;>dsimp only<;>omega
 ·rw [if_neg (by omega),if_pos h];refine .inr (.inl ⟨h,?_,?_,rfl⟩)<;>dsimp only<;>omega
 ·rw [if_neg (by omega),if_neg (by omega),if_pos h];refine .inr (.inr (.inl ⟨h,?_,?_,?_,?_⟩))<;>dsimp only<;>omega
 ·rw [if_neg (by omega),if_neg (by omega),if_neg (by omega),if_pos h];refine .inr (.inr (.inr (.inl ⟨h,?_,?_,?_,?_⟩)))<;>dsimp only<;>omega
 ·rw [if_neg (by omega),if_neg (by omega),if_neg (by omega),if_neg (by omega)];exact .inr (.inr (.inr (.inr ⟨h,rfl,rfl⟩)))
theorem xE (f:List (List oU)):iQ (AY f):=by
 refine ⟨by unfold AY;simp;omega,fun l hl=>?_⟩
 obtain ⟨l',_,rfl⟩:=List.mem_map.1 hl
 refine ⟨by unfold kL;simp;omega,fun o ho=>?_⟩
 obtain ⟨o',_,rfl⟩:=List.mem_map.1 ho
 exact vU o'
theorem m8 {α β:Type} (f:α→β) {l:List α} {k:Nat} (hk:k<l.length):(l.take (k+1)).map f=(l.take k).map f++[f l[k]]:=by
 rw [List.take_add_one,zD hk,List.map_append];rfl
abbrev aaM:Type:=((Int×Unit)×(((List (List oU))×Unit)×(Unit×(Unit×Unit))))
theorem Lb {f:List (List oU)} (nE:∀l∈f,∀o∈l,0≤o.1) {i:Nat} (hi:i<f.length) (hi8:i<8) {out:List (List oU)} (ho:out.length=i) (v1:aaM→Option (((List (List oU))×Unit)×Unit)) :
  loop (g.fG f (((i:Int),()),((out,()),((),((),())))) v1) ((0,()),(([],()),((),((),()))))=v1 ((((i+1:Nat):Int),()),(((out++[kL f[i]]),()),((),((),())))):=by
 have hff:nth [] f (nN (i:Int))=f[i]:=fk hi
 have ei:ae IntKind.i64 (i:Int) 1=((i+1:Nat):Int):=by rw [a_ (by omega)];omega
 generalize hl:f[i]=l at *
 have nE:=nE l (by rw [←hl];exact List.getElem_mem hi)
 refine (lH (fun k=>((((k:Nat):Int),()),((((l.take k).map oE,()),((),((),())))))) (fun _=>v1 ((((i+1:Nat):Int),()),(((out++[kL l]),()),((),((),()))))) (min l.length 8) (by unfold lu;omega) (fun K=>?_) (fun k hk=>.inr ⟨rfl,fun K=>?_⟩))
 ·have e8:(l.take (min l.length 8)).map oE=kL l:=by
   unfold kL
   by_cases h:l.length≤8
   ·rw [Nat.min_eq_left h,List.take_length,za h]
   ·rw [Nat.min_eq_right (by omega)]
  rw [e8]
  unfold g.fG
  dsimp only
  rw [hff]
  by_cases h:l.length≤8
  ·rw [Nat.min_eq_left h]
   repeat refine HS ?_
   rw [ei];rfl
  ·rw [Nat.min_eq_right (by omega)]
   repeat refine HS ?_
   rw [ei];rfl
 ·have h1:k<l.length:=by omega
  have h2:k<8:=by omega
  have e:∀d,nth d l (nN (k:Int))=l[k]:=fun d=>fk h1
  have h0:=nE l[k] (List.getElem_mem h1)
  have ek:ae IntKind.i64 (k:Int) 1=((k+1:Nat):Int):=by rw [a_ (by omega)];omega
  have hlen:((l.take k).map oE).length=k:=by simp;omega
  rw [m8 oE h1]
  generalize (l.take k).map oE=p at *
  unfold g.fG
  dsimp only
  rw [hff,e]
  generalize l[k]=o at *
  have er:bJ o.1 5=o.1%5:=cR h0
  have eA:bits BinOp.and IntKind.i64 o.2.1 63=o.2.1%64:=kB 6 (by omega) (by decide)
  have eB:bits BinOp.and IntKind.i64 o.2.1 7=o.2.1%8:=kB 3 (by omega) (by decide)
  have eC:bits BinOp.and IntKind.i64 o.2.2 7=o.2.2%8:=kB 3 (by omega) (by decide)
  have eD:bJ (o.2.1%8) 6=o.2.1%8%6:=cR (by omega)
  have eE:bJ (o.2.2%8) 6=o.2.2%8%6:=cR (by omega)
  rw [er,eA,eB,eC,eD,eE,ek]
  unfold oE
  by_cases c0:o.1%5=0
  ·rw [if_pos c0]
   repeat refine HS ?_
   rfl
  rw [if_neg c0]
  by_cases c1:o.1%5=1
  ·rw [if_pos c1]
   repeat refine HS ?_
   rfl
  rw [if_neg c1]
  by_cases c2:o.1%5=2
  ·rw [if_pos c2]
   repeat refine HS ?_
   rfl
  rw [if_neg c2]
  by_cases c3:o.1%5=3
  ·rw [if_pos c3]
   repeat refine HS ?_
   rfl
  rw [if_neg c3]
  repeat refine HS ?_
  rfl
theorem u_ {f:List (List oU)} (nE:∀l∈f,∀o∈l,0≤o.1):g.gX f=some ((AY f,()),()):=by
 unfold g.gX
 refine (lH (fun k=>((((k:Nat):Int),()),((((f.take k).map kL,()),((),((),())))))) (fun _=>some ((AY f,()),())) (min f.length 8) (by unfold lu;omega) (fun K=>?_) (fun k hk=>.inr ⟨rfl,fun K=>?_⟩))
 ·have e8:(f.take (min f.length 8)).map kL=AY f:=by
   unfold AY
   by_cases h:f.length≤8
   ·rw [Nat.min_eq_left h,List.take_length,za h]
   ·rw [Nat.min_eq_right (by omega)]
  rw [e8]
  unfold g.g7
  dsimp only
  by_cases h:f.length≤8
  ·rw [Nat.min_eq_left h]
   by_cases h8:f.length=8
   ·repeat refine HS ?_
    rfl
   ·repeat refine HS ?_
    rfl
  ·rw [Nat.min_eq_right (by omega)]
   repeat refine HS ?_
   rfl
 ·have h1:k<f.length:=by omega
  have h2:k<8:=by omega
  have hlen:((f.take k).map kL).length=k:=by simp;omega
  rw [m8 kL h1]
  unfold g.g7
  dsimp only
  repeat refine HS ?_
  exact Lb nE h1 h2 hlen K
def pr (l:List sb):Prop:=∀c∈l,0≤c.2.1∧0≤c.2.2.1∧0≤c.2.2.2.1
theorem yF (a b:Int):lK a b≤a∧lK a b≤b:=by unfold lK;split<;>omega
theorem yG {a b:Int} (h:0≤a) (h2:0≤b):0≤lK a b:=by unfold lK;split<;>omega
theorem BY {α:Type} {x:α} {n:Nat} {l:List α} (h:x∈tk n (dr 0 l)):x∈l:=by
 have h:x∈List.take n (List.drop 0 l):=h
 rw [List.drop_zero] at h
 exact List.mem_of_mem_take h
theorem La (a:m5×(List (List oU)×List (List sb))) (nE:∀l∈a.2.1,∀o∈l,0≤o.1) (vJ:∀l∈a.2.2,pr l):Ok (g.gZ a) (fun r=>eQ r.1.1=true∧iQ r.1.2.1∧tr r.1.1 r.1.2.2.1):=by
 unfold g.gZ
 have hp:=xC a.1
 have XK:=gu.1 hp
 refine .fI (vb a.1) ?_
 generalize Hd a.1=p at *
 refine .oi (fun s=>(s.2.1.1.length:Int)≤p.2.1∧∀l∈s.2.1.1,l.length≤64∧pr l) (fun s hs=>?_) fun kk kJ=>?_
 ·obtain ⟨s1,s2⟩:=hs
  refine .loop (fun m z=>∃k:Nat,z.1.1=(k:Int)∧z.2.1.1.length=s.2.1.1.length∧k+m=s.2.1.1.length∧∀l∈z.2.1.1,l.length≤64∧pr l) (fun m z gg hI ih=>?_) (N:=s.2.1.1.length) (by unfold lu;omega) ⟨0,rfl,rfl,by omega,s2⟩
  obtain ⟨k,h1,h2,h3,h4⟩:=hI
  unfold g.jA
  rw [h1,eH]
  have ek:nN (k:Int)=k:=rfl
  refine .br (fun hb=>?_) fun hb=>?_
  ·have hb:=d_.1 hb
   have hk:k<z.2.1.1.length:=by omega
   have hg:bo (nN (k:Int)) (len z.2.1.1):=by rw [bQ,aL,ek];exact hk
   have en:∀d,nth d z.2.1.1 (nN (k:Int))=z.2.1.1[k]:=fun d=>fk hk
   have hx:ae .i64 (k:Int) 1=((k+1:Nat):Int):=by rw [a_ (by omega)];rfl
   have hl:=h4 _ (List.getElem_mem hk)
   have hm:=yF (zN (len z.2.1.1[k])) 20
   have vL:0≤lK (zN (len z.2.1.1[k])) 20:=yG (by rw [eH];omega) (by omega)
   simp only [en]
   refine .gd (by rw [bH];omega) (.gd hg (.gd (by rw [bH];omega) (.gd hg (.gd (by rw [bH];exact vL) (.gd (by rw [db];exact Nat.zero_le _) (.gd ?_ (.gd (by rw [bH];omega) (.gd hg (ih (m-1) _ (by omega) ⟨k+1,hx,?_,by omega,?_⟩)))))))))
   ·rw [eH] at hm ⊢
    rw [db,dS,aL];omega
   ·show (ao _ _ _ _).length=_
    rw [x6 (show z.2.1.1[nN (k:Int)]?=some z.2.1.1[k] from zD hk),zM];exact h2
   ·show ∀l∈ao _ _ _ _,_
    rw [x6 (show z.2.1.1[nN (k:Int)]?=some z.2.1.1[k] from zD hk)]
    intro l Vl
    rcases List.mem_or_eq_of_mem_set Vl with h | rfl
    ·exact h4 l h
    ·refine ⟨?_,fun c hc=>hl.2 c (BY hc)⟩
     show (List.take _ (List.drop 0 _)).length≤64
     rw [List.length_take,List.drop_zero];omega
  ·refine .fI (u_ nE) (.some ⟨hp,xE _,?_,h4⟩)
   show (z.2.1.1.length:Int)≤p.2.1
   rw [h2];exact s1
 ·refine .loop (fun m z=>∃k:Nat,z.1.1=(k:Int)∧z.2.1.1.length=k∧(k:Int)≤p.2.1∧(k:Int)+m=p.2.1∧∀l∈z.2.1.1,l.length≤64∧pr l) (fun m z gg hI ih=>?_) (N:=p.2.1.toNat) (by unfold lu;omega) ⟨0,rfl,rfl,by omega,by omega,fun l h=>nomatch h⟩
  obtain ⟨k,h1,h2,h3,h4,h5⟩:=hI
  have fin:∀b:Int×(Unit×(Unit×Unit)),Ok (kk ((),((z.2.1.1,()),((),((),()))))) (fun r=>eQ r.1.1=true∧iQ r.1.2.1∧tr r.1.1 r.1.2.2.1):=fun _=>kJ _ ⟨by show (z.2.1.1.length:Int)≤p.2.1;rw [h2];exact h3,h5⟩
  unfold g.jz
  rw [h1]
  refine .oi (fun _=>(k:Int)<p.2.1∧k<a.2.2.length) (fun s hs=>?_) fun kk2 XZ=>.br (fun e=>.br (fun e2=>XZ _ ⟨d_.1 e2,by have:=d_.1 e;rw [eH] at this;omega⟩) fun _=>fin (0,((),((),())))) fun _=>fin (0,((),((),())))
  obtain ⟨KN,hs⟩:=hs
  have ek:nN (k:Int)=k:=rfl
  have hg:bo (nN (k:Int)) (len a.2.2):=by rw [bQ,aL,ek];exact hs
  have en:∀d,nth d a.2.2 (nN (k:Int))=a.2.2[k]:=fun d=>fk hs
  have hx:ae .i64 (k:Int) 1=((k+1:Nat):Int):=by rw [a_ (by omega)];rfl
  have hm:=yF (zN (len a.2.2[k])) 64
  have vL:0≤lK (zN (len a.2.2[k])) 64:=yG (by rw [eH];omega) (by omega)
  simp only [en]
  refine .gd (by rw [bH];omega) (.gd hg (.gd (by rw [bH];omega) (.gd hg (.gd (by rw [bH];exact vL) (.gd (by rw [db];exact Nat.zero_le _) (.gd ?_ (.gd ?_ (ih (m-1) _ (by omega) ⟨k+1,hx,?_,by omega,by omega,?_⟩))))))))
  ·rw [eH] at hm ⊢
   rw [db,dS,aL];omega
  ·rw [db];show len z.2.1.1+1≤_;rw [aL];omega
  ·show (z.2.1.1++[_]).length=_
   rw [zY,h2];rfl
  ·intro l hl
   rcases zX.1 hl with h | h
   ·exact h5 l h
   ·rw [zF] at h
    subst h
    refine ⟨?_,fun c hc=>vJ _ (List.getElem_mem hs) c (BY hc)⟩
    show (List.take _ (List.drop 0 _)).length≤64
    rw [List.length_take,List.drop_zero]
    have:aC (nN (lK (zN (len a.2.2[k])) 64)) 0≤64:=by show nN _-0≤64;rw [dS];omega
    omega
open Go.Bm Go.oT
def L7 (s s':WS) (j:Nat) (o':zl):Prop:=s.ops.length≤j∨∃o,s.ops[j]?=some o∧Op.to o≠Op.to o'
structure OF (t:Int) (s s':WS) (e:Option Nat):Prop where
 len:s.ops.length≤s'.ops.length
 who:∀(j:Nat) o',s'.ops[j]?=some o'→L7 s s' j o'→o'.1=t
 fin:∀(j:Nat) o',s'.ops[j]?=some o'→(L7 s s' j o'∧0≤Op.to o'↔e=some j)
 fen:∀q,e=some q→q<s'.ops.length
 cT:∀c:Int,c≠t→ev s' c=ev s c∧eN s' c=eN s c
 own:e=none→ev s' t=ev s t∧eN s' t=eN s t
theorem OF.same (t:Int) (s:WS):OF t s s none:=by
 have h:∀(j:Nat) o',s.ops[j]?=some o'→¬L7 s s j o':=fun j o' h1 h2=>by
  have eY:=(zB.1 h1).1
  rcases h2 with h2 | ⟨o,h2,h3⟩
  ·omega
  ·rw [h1] at h2;cases h2;exact h3 rfl
 exact ⟨Nat.le_refl _,fun j o' h1 h2=>absurd h2 (h j o' h1),fun j o' h1=>⟨fun h2=>absurd h2.1 (h j o' h1),fun h=>by cases h⟩,fun q h=>(by cases h),fun _ _=>⟨rfl,rfl⟩,fun _=>⟨rfl,rfl⟩⟩
theorem Ck {s s':WS} {k:Nat} {w:List Int} (h:s'.rg=s.rg.set k w) (c:Int) (hc:c≠(k:Int)):ev s' c=ev s c:=by
 unfold ev
 by_cases h0:0≤c
 ·rw [if_pos h0,if_pos h0,h,List.getElem?_set_ne (by omega)]
 ·rw [if_neg h0,if_neg h0]
theorem wa {s s':WS} {k:Nat} {t:qg} (h:s'.tl=s.tl.set k t) (c:Int) (hc:c≠(k:Int)):eN s' c=eN s c:=by
 unfold eN
 by_cases h0:0≤c
 ·rw [if_pos h0,if_pos h0,h,List.getElem?_set_ne (by omega)]
 ·rw [if_neg h0,if_neg h0]
theorem OF.step {k:Nat} {t:qg} {s s':WS} (ht:s.tl[k]?=some t) (h:JU k t s s'):(∃e,OF (k:Int) s s' e)∧s'.st=s.st+1∧s'.ops.length≤s.ops.length+1:=by
 obtain ⟨t1,g_,r',hB,h1,h2⟩:=h
 have hk:k<s.tl.length:=(zB.1 ht).1
 have hb:(g_=s.ops∨∃c,g_=s.ops++[pG k c s.st])∧Th.gh t1=Th.gh t:=by
  rcases hB with ⟨_,rfl,rfl⟩ | ⟨_,c,cs,r,_,_,rfl,rfl⟩
  ·exact ⟨.inl rfl,rfl⟩
  ·exact ⟨.inr ⟨c,rfl⟩,rfl⟩
 obtain ⟨hb,he⟩:=hb
 have Mm:s.ops.length≤g_.length∧g_.length≤s.ops.length+1:=by
  rcases hb with rfl | ⟨c,rfl⟩
  ·exact ⟨Nat.le_refl _,Nat.le_succ _⟩
  ·rw [zY];exact ⟨Nat.le_add_right _ _,Nat.le_refl _⟩
 have hold:∀(j:Nat) o,s.ops[j]?=some o→g_[j]?=some o:=fun j o h=>by
  rcases hb with rfl | ⟨c,rfl⟩
  ·exact h
  ·rw [zK (zB.1 h).1];exact h
 have rT:∀(j:Nat) o,g_[j]?=some o→s.ops.length≤j→o.1=(k:Int)∧Op.to o = -1:=fun j o h hj=>by
  have eY:=(zB.1 h).1
  rcases hb with rfl | ⟨c,rfl⟩
  ·omega
  ·rw [zJ hj] at h
   have:j-s.ops.length=0:=by rw [zY] at eY;simp at eY;omega
   rw [this] at h
   cases h
   exact ⟨rfl,rfl⟩
 have GX:∀(j:Nat) o o',g_[j]?=some o→L7 s s' j o'→s.ops.length≤j∨Op.to o≠Op.to o':=fun j o o' h h'=>by
  rcases h' with h' | ⟨o2,h3,h4⟩
  ·exact .inl h'
  ·have:=hold j o2 h3
   rw [h] at this;cases this
   exact .inr h4
 rcases h2 with ⟨d,ho,Vc,Mi⟩ | ⟨d,nR,w',q,o,hq,hqo,hqk,hqt,ho,Vc,Mi⟩
 ·refine ⟨⟨none,?_,?_,?_,?_,?_,?_⟩,h1,by rw [ho];exact Mm.2⟩
  ·rw [ho];exact Mm.1
  ·intro j o' h3 h4
   rw [ho] at h3
   rcases GX j o' o' h3 h4 with h | h
   ·exact (rT j o' h3 h).1
   ·exact absurd rfl h
  ·intro j o' h3
   rw [ho] at h3
   refine ⟨fun ⟨h4,h5⟩=>?_,fun h=>by cases h⟩
   rcases GX j o' o' h3 h4 with h | h
   ·have:=(rT j o' h3 h).2;omega
   ·exact absurd rfl h
  ·intro q h;cases h
  ·intro c hc
   refine ⟨?_,wa Vc c hc⟩
   unfold ev;rw [Mi]
  ·intro _
   refine ⟨by unfold ev;rw [Mi],?_⟩
   unfold eN
   rw [if_pos (by omega),if_pos (by omega),zE,Vc,List.getElem?_set_self hk,ht]
   exact he
 ·have GM:=(zB.1 hqo).1
  have XD:s'.ops.length=g_.length:=by rw [ho,zM]
  have bO:s'.ops[q]?=some (qN o s.st r'):=by rw [ho,List.getElem?_set_self GM]
  have jN:∀j:Nat,j≠q→s'.ops[j]?=g_[j]?:=fun j hj=>by rw [ho,List.getElem?_set_ne (fun h=>hj h.symm)]
  have Dt:L7 s s' q (qN o s.st r'):=by
   by_cases h:s.ops.length≤q
   ·exact .inl h
   ·have eY:q<s.ops.length:=by omega
    have:=hold q _ (zD eY)
    rw [hqo] at this;cases this
    refine .inr ⟨_,zD eY,?_⟩
    rw [hqt]
    show (-1:Int)≠(s.st:Int)
    omega
  refine ⟨⟨some q,by rw [XD];exact Mm.1,?_,?_,?_,?_,fun h=>by cases h⟩,h1,by rw [XD];exact Mm.2⟩
  ·intro j o' h3 h4
   by_cases hj:j=q
   ·subst hj
    rw [bO] at h3;cases h3
    exact hqk
   ·rw [jN j hj] at h3
    rcases GX j o' o' h3 h4 with h | h
    ·exact (rT j o' h3 h).1
    ·exact absurd rfl h
  ·intro j o' h3
   by_cases hj:j=q
   ·subst hj
    rw [bO] at h3;cases h3
    exact ⟨fun _=>rfl,fun _=>⟨Dt,by show (0:Int)≤(s.st:Int);omega⟩⟩
   ·rw [jN j hj] at h3
    refine ⟨fun ⟨h4,h5⟩=>?_,fun h=>absurd (by cases h;rfl) hj⟩
    rcases GX j o' o' h3 h4 with h | h
    ·have:=(rT j o' h3 h).2;omega
    ·exact absurd rfl h
  ·intro q' h;cases h;rw [XD];exact GM
  ·intro c hc
   exact ⟨Ck Mi c hc,wa Vc c hc⟩
open Go.Bm Go.oT
abbrev OSt:Type:=(Int×Unit)×(Unit×(Unit×(Unit×Ds)))
abbrev OVt:Type:=(Option Nat×(Int×Unit))×(T0×(T1×(T2×(T3×(T4×(T5×(T6×(T2×(T9×Unit)))))))))
abbrev ORt:Type:=T0×(T1×(T2×(T3×(T4×(T5×(T6×(T7×(T2×(T9×Unit)))))))))
abbrev r_ {β:Type} (x:Option ((Bool×Unit)×β)):Prop:=Ok x (fun r=>r.1.1=true)
theorem u0 {n:Nat} {C:WC} {s:WS} {c5:T5} {D:Ds} (H:WI n C s c5 D) (c:Int):(ev s c).length≤1000:=by
 unfold ev
 by_cases h0:0≤c
 ·rw [if_pos h0]
  cases h:s.rg[c.toNat]? with
  | none=>exact Nat.zero_le _
  | some w=>
   have eY:=(zB.1 h).1
   have h1:=H.Re;have h2:=H.Rd
   obtain ⟨id,rr,w2,a1,a2,a3,a4,a5,a6,a7,a8⟩:=H.IE c.toNat _ (zD (show c.toNat<s.tl.length by omega))
   rw [h] at a5;cases a5
   show w.length≤1000;omega
 ·rw [if_neg h0];exact Nat.zero_le _
theorem wb {n:Nat} {C:WC} {s:WS} {c5:T5} {D:Ds} (H:WI n C s c5 D) (c:Int):(eN s c).length≤1000:=by
 unfold eN
 by_cases h0:0≤c
 ·rw [if_pos h0]
  cases h:s.tl[c.toNat]? with
  | none=>exact Nat.zero_le _
  | some t=>
   obtain ⟨id,rr,w2,a1,a2,a3,a4,a5,a6,a7,a8⟩:=H.IE c.toNat t h
   have:=a8.gh
   show (Th.gh t).length≤1000;omega
 ·rw [if_neg h0];exact Nat.zero_le _
theorem wv {β:Type} {n:Nat} {C:WC} {s':WS} {c5:T5} {D:Ds} (H:WI n C s' c5 D) (c t z:Int) {ro:List Int} {eo:List (Int×Bool)} {F K:Option ((Bool×Unit)×β)} (hq:c≠t∨z=0→ro=ev s' c∧eo=eN s' c) (l1:ro.length≤1000) (l2:eo.length≤1000) (hK:r_ K) :
  r_ (bd (g.ax C.wi c D.1 D.2.1 D.2.2.1 D.2.2.2.1 D.2.2.2.2.1 c5 D.2.2.2.2.2.1 D.2.2.2.2.2.2.1 D.2.2.2.2.2.2.2.1 D.2.2.2.2.2.2.2.2.1) (fun p7=>bd (g.av (cat [] ro) p7.1.1) (fun p8=>bd (g.ak C.wi c D.1 D.2.1 D.2.2.1 D.2.2.2.1 D.2.2.2.2.1 c5 D.2.2.2.2.2.1 D.2.2.2.2.2.2.1 D.2.2.2.2.2.2.2.1 D.2.2.2.2.2.2.2.2.1) (fun p9=>bd (g.ay (cat [] eo) p9.1.1) (fun fm=>br (af (ah c t)) (br (af p8.1.1) F (br (af fm.1.1) F K)) (br (ah z 0) (br (af p8.1.1) F (br (af fm.1.1) F K)) K)))))):=by
 refine .fI (ru H c) (.bd (EF l1 (u0 H c)) fun p8 h8=>.fI (ln H c) (.bd (HF l2 (wb H c)) fun fm JE=>?_))
 have both:(c≠t∨z=0)→r_ (br (af p8.1.1) F (br (af fm.1.1) F K)):=fun h=>by
  obtain ⟨e1,e2⟩:=hq h
  have b1:=h8 e1
  have b2:=JE e2
  rw [b1,b2]
  exact hK
 exact .br (fun e=>both (.inl (cu.1 (iv.1 e)))) fun _=>.br (fun e=>both (.inr (cQ.1 e))) fun _=>hK
set_option maxHeartbeats 4000000 in
theorem CJ {n:Nat} {C:WC} {s s':WS} {e:Option Nat} {T:Int} (a1:List Int) (v0 v1:((List zl)×Unit)×Unit) (v2:OSt) (v3:(Bool×(Int×Unit))×Ds) (v4:OVt) (v6:(Int×Unit)×Unit)
  (v7 v9 v11 nM:((List Int)×Unit)×Unit) (v8 v10 Bs nL:((List (Int×Bool))×Unit)×Unit) (fE:OSt→Option ((Bool×Unit)×ORt))
  (H:WI n C s' v4.2.2.2.2.2.2.1 v3.2) (hT:bJ (cl .i64 (nth 0 a1 (nN v2.1.1))) 5=T) (h0:v0.1.1=s'.ops) (h1:v1.1.1=s.ops) (hl:s'.ops.length≤10000) (h6:v6.1.1=(s.st:Int)) (sE:s.st≤10000)
  (r0:v7.1.1=ev s 0) (r1:v9.1.1=ev s 1) (r2:v11.1.1=ev s 2) (r3:nM.1.1=ev s 3) (e0:v8.1.1=eN s 0) (e1:v10.1.1=eN s 1) (e2:Bs.1.1=eN s 2) (e3:nL.1.1=eN s 3)
  (lr:∀c,(ev s c).length≤1000) (le:∀c,(eN s c).length≤1000)
  (hO:OF T s s' e) (hg:(v3.1.2.1=0∧s'.st=s.st+1)∨(v3.1.2.1≠0∧s'.st=s.st∧s'.ops.length=s.ops.length∧e=none))
  (hK:r_ (fE (((ae .i64 v2.1.1 1),()),((),((),((),v3.2)))))) :
  r_ (loop (g.fh a1 v0 v1 v2 v3 v4 C.wi v6 v7 v8 v9 v10 v11 Bs nM nL fE) ((0,(0,())),((),((),((),()))))):=by
 refine .loop (fun m z=>∃j:Nat,z.1.2.1=(j:Int)∧j+m=s'.ops.length∧((z.1.1=1∧∃q,e=some q∧q<j)∨(z.1.1=0∧∀q,e=some q→j≤q))) (fun m z gg hI ih=>?_) (N:=s'.ops.length) (by unfold lu;omega) ⟨0,rfl,by omega,.inr ⟨rfl,fun q _=>Nat.zero_le _⟩⟩
 obtain ⟨j,z1,z2,z3⟩:=hI
 unfold g.fh
 rw [z1,hT,h0,h1,h6,r0,r1,r2,r3,e0,e1,e2,e3]
 simp only [eH]
 have ej:nN (j:Int)=j:=rfl
 refine .br (fun hb=>?_) fun hb=>?_
 ·have hb:=d_.1 hb
  have hj:j<s'.ops.length:=by omega
  have hx:ae .i64 (j:Int) 1=((j+1:Nat):Int):=by rw [a_ (by omega)];rfl
  have X5:bo (nN (j:Int)) (len s'.ops):=by rw [bQ,aL,ej];exact hj
  have Vo:bn (j:Int):=by rw [bH];omega
  have en:∀d,nth d s'.ops (nN (j:Int))=s'.ops[j]:=fun d=>fk hj
  have eo':=zD hj
  have hw:=hO.who j _ eo'
  have hf:=hO.fin j _ eo'
  simp only [en,hx]
  generalize s'.ops[j]=o' at *
  have skip:¬(L7 s s' j o'∧0≤Op.to o')→r_ (gg ((z.1.1,(((j+1:Nat):Int),())),((),((),((),()))))):=fun h=>by
   refine ih (m-1) _ (by omega) ⟨j+1,rfl,by omega,?_⟩
   have jN:e≠some j:=fun he=>h (hf.2 he)
   rcases z3 with ⟨y1,q,y2,y3⟩ | ⟨y1,y2⟩
   ·exact .inl ⟨y1,q,y2,by omega⟩
   ·refine .inr ⟨y1,fun q hq=>?_⟩
    have:=y2 q hq
    have:q≠j:=fun hqj=>jN (hqj▸hq)
    omega
  refine .oi (fun b=>b.1.1=true↔L7 s s' j o') (fun b DJ=>.br (fun hc=>?_) fun hc=>?_) fun kk kJ=>.br (fun hc=>kJ _ ⟨fun _=>.inl (by have:=C5.1 hc;omega),fun _=>rfl⟩) fun hc=>?_
  ·have hC:=DJ.1 hc
   have Xu:=hw hC
   refine .gd Vo (.gd X5 (.br (fun h=>?_) fun _=>.gd Vo (.gd X5 (.br (fun h=>?_) fun h=>?_))))
   ·have h:=cu.1 (iv.1 h);exact absurd Xu h
   ·have h:(0:Int)≤Op.to o':=C5.1 h
    have he:=hf.1 ⟨hC,h⟩
    refine ih (m-1) _ (by omega) ⟨j+1,rfl,by omega,?_⟩
    rcases z3 with ⟨y1,q,y2,y3⟩ | ⟨y1,y2⟩
    ·rw [he] at y2;cases y2;omega
    ·refine .inl ⟨?_,j,he,by omega⟩
     show ae .i64 z.1.1 1=1
     rw [y1];rfl
   ·have h:¬(0:Int)≤Op.to o':=pI.1 h
    exact skip fun h'=>h h'.2
  ·refine skip fun h'=>?_
   have:=DJ.2 h'.1
   rw [hc] at this;cases this
  ·have hc:=pI.1 hc
   have GS:j<s.ops.length:=by omega
   have Mn:bo (nN (j:Int)) (len s.ops):=by rw [bQ,aL,ej];exact GS
   have en2:∀d,nth d s.ops (nN (j:Int))=s.ops[j]:=fun d=>fk GS
   simp only [en2]
   refine .gd Vo (.gd Mn (.gd Vo (.gd X5 (kJ _ ?_))))
   show af (ah (Op.to s.ops[j]) (Op.to o'))=true↔_
   rw [iv,cu]
   refine ⟨fun h=>.inr ⟨_,zD GS,h⟩,fun h=>?_⟩
   rcases h with h | ⟨o,h3,h4⟩
   ·omega
   ·rw [zD GS] at h3;cases h3;exact h4
 ·have hb:=kr.1 hb
  have tY:(z.1.1=1∧e≠none)∨(z.1.1=0∧e=none):=by
   rcases z3 with ⟨y1,q,y2,y3⟩ | ⟨y1,y2⟩
   ·exact .inl ⟨y1,by rw [y2];exact fun h=>by cases h⟩
   ·refine .inr ⟨y1,?_⟩
    cases he:e with
    | none=>rfl
    | some q=>
     have:=y2 q he
     have:=hO.fen q he
     omega
  have hq:∀c:Int,c≠T∨z.1.1=0→ev s c=ev s' c∧eN s c=eN s' c:=fun c h=>by
   by_cases hc:c=T
   ·have hz:z.1.1=0:=by
     rcases h with h | h
     ·exact absurd hc h
     ·exact h
    have he:e=none:=by
     rcases tY with ⟨y,_⟩ | ⟨_,y⟩
     ·omega
     ·exact y
    have:=hO.own he
    rw [hc]
    exact ⟨this.1.symm,this.2.symm⟩
   ·have:=hO.cT c hc
    exact ⟨this.1.symm,this.2.symm⟩
  refine .oi (fun _=>True) (fun u _=>?_) fun kk kJ=>?_
  ·refine wv H 0 T z.1.1 (hq 0) (lr 0) (le 0) ?_
   refine wv H 1 T z.1.1 (hq 1) (lr 1) (le 1) ?_
   refine wv H 2 T z.1.1 (hq 2) (lr 2) (le 2) ?_
   exact wv H 3 T z.1.1 (hq 3) (lr 3) (le 3) hK
  ·have hSt:=zj H
   have ok:v3.1.2.1=0→s'.st=s.st+1:=fun h=>by
    rcases hg with ⟨_,h2⟩ | ⟨h1,_⟩
    ·exact h2
    ·exact absurd h h1
   have h2:r_ (br (ah v3.1.2.1 0) (bd (g.cH C.wi v3.2.1 v3.2.2.1 v3.2.2.2.1 v3.2.2.2.2.1 v3.2.2.2.2.2.1 v4.2.2.2.2.2.2.1 v3.2.2.2.2.2.2.1 v3.2.2.2.2.2.2.2.1 v3.2.2.2.2.2.2.2.2.1 v3.2.2.2.2.2.2.2.2.2.1) (fun p5=>br (af (ah p5.1.1 (ae IntKind.i64 (s.st:Int) 1))) (some ((false,()),(v3.2.1,(v3.2.2.1,(v3.2.2.2.1,(v3.2.2.2.2.1,(v3.2.2.2.2.2.1,(v4.2.2.2.2.2.2.1,v3.2.2.2.2.2.2)))))))) (br (bb 1 z.1.1) (some ((false,()),(v3.2.1,(v3.2.2.1,(v3.2.2.2.1,(v3.2.2.2.2.1,(v3.2.2.2.2.2.1,(v4.2.2.2.2.2.2.1,v3.2.2.2.2.2.2)))))))) (kk ((),((),((),((),())))))))) (kk ((),((),((),((),())))))):=by
    refine .br (fun h=>.fI hSt (.br (fun h'=>?_) fun _=>.br (fun h'=>?_) fun _=>kJ _ trivial)) fun _=>kJ _ trivial
    ·have h':=cu.1 (iv.1 h')
     have:=ok (cQ.1 h)
     rw [a_ (by omega)] at h'
     exfalso;apply h';dsimp only;omega
    ·have h':=d_.1 h'
     rcases tY with ⟨y,_⟩ | ⟨y,_⟩<;>omega
   refine .br (fun h=>.fI hSt (.br (fun h'=>?_) fun _=>.br (fun h'=>?_) fun _=>.br (fun h'=>?_) fun _=>h2)) fun _=>h2
   all_goals
    have jN:=cu.1 (iv.1 h)
    obtain ⟨g1,g2,g3⟩:s'.st=s.st∧s'.ops.length=s.ops.length∧e=none:=by
     rcases hg with ⟨h1,_⟩ | ⟨_,h2⟩
     ·exact absurd h1 jN
     ·exact h2
   ·have h':=cu.1 (iv.1 h')
    exfalso;apply h';dsimp only;omega
   ·have h':=cu.1 (iv.1 h')
    exfalso;apply h';rw [g2]
   ·have h':=d_.1 h'
    rcases tY with ⟨_,y⟩ | ⟨y,_⟩
    ·exact absurd g3 y
    ·omega
open Go.Bm Go.oT
set_option maxHeartbeats 4000000 in
theorem Kn {C:WC} {w0:WS} (a1:List Int) (hb:∀x∈a1,0≤x∧x≤255) (v0:OVt) (D:Ds) (H0:WI 0 C w0 v0.2.2.2.2.2.2.1 D) (h1:w0.st=0) (h2:w0.ops=[]) :
  r_ (loop (g.fg a1 v0 C.wi) ((0,()),((),((),((),D))))):=by
 refine .loop (fun m z=>∃(k n:Nat) (s:WS),z.1.1=(k:Int)∧k+m=200∧n≤k∧WI n C s v0.2.2.2.2.2.2.1 z.2.2.2.2∧s.st≤n∧s.ops.length≤n) (fun m z gg hI ih=>?_) (N:=200) (by unfold lu;omega) ⟨0,0,w0,rfl,rfl,Nat.le_refl _,H0,by omega,by rw [h2];exact Nat.le_refl _⟩
 obtain ⟨k,n,s,z1,z2,z3,H,z5,z6⟩:=hI
 unfold g.fg
 rw [z1]
 simp only [eH]
 refine .oi (fun _=>k<a1.length∧k<200) (fun u hu=>?_) fun kk kJ=>.br (fun e=>.br (fun e2=>kJ _ ⟨by have:=d_.1 e;omega,by have:=d_.1 e2;omega⟩) fun _=>.some rfl) fun _=>.some rfl
 obtain ⟨u1,u2⟩:=hu
 have ek:nN (k:Int)=k:=rfl
 have hx:ae .i64 (k:Int) 1=((k+1:Nat):Int):=by rw [a_ (by omega)];rfl
 have hby:=hb _ (List.getElem_mem u1)
 have eT:bJ (cl .i64 (nth 0 a1 (nN (k:Int)))) 5=a1[k]%5:=by
  rw [ek,fk u1,fY (by omega),cR (by omega)]
 have lr:=u0 H
 have le:=wb H
 have gR:∀c,bt (aN 0 (len (ev s c))) 16777216:=fun c=>by rw [db];show 0+len (ev s c)≤_;rw [aL];have:=lr c;omega
 have gE:∀c,bt (aN 0 (len (eN s c))) 16777216:=fun c=>by rw [db];show 0+len (eN s c)≤_;rw [aL];have:=le c;omega
 refine .gd (by rw [bH];omega) (.gd (by rw [bQ,aL,ek];exact u1) ?_)
 refine .fI (ru H 0) (.gd (gR 0) (.fI (ln H 0) (.gd (gE 0) (.fI (ru H 1) (.gd (gR 1) (.fI (ln H 1) (.gd (gE 1) (.fI (ru H 2) (.gd (gR 2) (.fI (ln H 2) (.gd (gE 2) (.fI (ru H 3) (.gd (gR 3) (.fI (ln H 3) (.gd (gE 3) ?_)))))))))))))))
 refine .bd (xW H (by omega)) fun fm JE=>.fI (zj H) ?_
 rw [eT]
 refine .bd (HE H (by omega) z5 z6 (a1[k]%5) (by omega)) fun b9 h12=>?_
 have eT':bJ (cl .i64 (nth 0 a1 (nN z.1.1))) 5=a1[k]%5:=by rw [z1];exact eT
 have next:∀(n':Nat) (s':WS),n'≤k+1→WI n' C s' v0.2.2.2.2.2.2.1 b9.2→s'.st≤n'→s'.ops.length≤n'→r_ (gg (((ae .i64 z.1.1 1),()),((),((),((),b9.2))))):=fun n' s' a b c d=>
  ih (m-1) _ (by omega) ⟨k+1,n',s',by rw [z1];exact hx,by omega,a,b,c,d⟩
 rcases h12 with ⟨hD,hr⟩ | ⟨hr,k',t,s',BE,ht,he,hS,H',_⟩
 ·have H':WI n C s v0.2.2.2.2.2.2.1 b9.2:=by rw [hD];exact H
  have jN:b9.1.2.1≠0:=by
   rcases hr with ⟨_,h⟩ | ⟨_,_,_,_,_,h⟩<;>(rw [h];decide)
  refine .bd (xW H' (by omega)) fun cm Yn=>CJ (s:=s) (e:=none) a1 _ _ z b9 v0 _ _ _ _ _ _ _ _ _ gg H' eT' Yn JE (by omega) rfl (by omega) rfl rfl rfl rfl rfl rfl rfl rfl lr le (OF.same _ s) (.inr ⟨jN,rfl,rfl,rfl⟩) (next n s (by omega) H' z5 z6)
 ·obtain ⟨⟨e,hO⟩,o1,o2⟩:=OF.step ht hS
  rw [←BE] at hO
  refine .bd (xW H' (by omega)) fun cm Yn=>CJ (s:=s) (e:=e) a1 _ _ z b9 v0 _ _ _ _ _ _ _ _ _ gg H' eT' Yn JE (by omega) rfl (by omega) rfl rfl rfl rfl rfl rfl rfl rfl lr le hO (.inl ⟨hr,o1⟩) (next (n+1) s' (by omega) H' (by omega) (by omega))
abbrev Shown:Prop:=Ok (g.cy [] [] [] [] [] [] [] [] [] []) (fun r=>r.1.1=true)
theorem uL (hs:Shown) (c:m5×(List (List oU)×List (List sb))) (a1:List Int) (nE:∀l∈c.2.1,∀o∈l,0≤o.1) (vJ:∀l∈c.2.2,pr l) (hb:∀x∈a1,0≤x∧x≤255) :
  r_ (g.gy c a1 [] [] [] [] [] [] [] [] [] []):=by
 unfold g.gy
 refine .bd hs fun p0 h0=>.bd (La c nE vJ) fun p1 h1=>?_
 obtain ⟨f1,f2,f3⟩:=h1
 refine .bd (L4 f1 f2 f3 _ _ _ _ _ _ _ _ _ _) fun p2 h2=>?_
 obtain ⟨n1,n2,C,n3,n4,H⟩:=h2
 refine .gJ n1 (.oi (fun _=>True) (fun u _=>?_) fun kk kJ=>.br (fun e=>?_) fun _=>.br (fun e=>?_) fun _=>kJ _ trivial)
 ·rw [←n3]
  exact Kn a1 hb p2 _ H rfl rfl
 ·rw [h0] at e;cases e
 ·have e:=cu.1 (iv.1 e);exact absurd n2 e
end Go.Proofs.YtfffmmahegdfiaaGreat