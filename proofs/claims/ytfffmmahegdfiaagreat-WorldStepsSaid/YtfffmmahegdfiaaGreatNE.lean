/- Texts of one proof, put together: see each part. -/
import Derived.KernelRfl
import Derived.Test.YtfffmmahegdfiaaGreatND
set_option maxHeartbeats 2000000
noncomputable section
set_option linter.unusedVariables false
set_option linter.unusedSimpArgs false
namespace Go.Proofs.YtfffmmahegdfiaaGreat
open Go.Bm Go.oX
theorem cK {l:List (Int×Bool)} (hl:l.length≤100) (p:mE) (w:Int):Ok (g.cG p l w) (fun _=>True):=by
 unfold g.cG
 exact .bd (bU _) fun q _=>.kS (fun _=>True) (fun s _=>.br (fun _=>.some trivial) fun _=>.gP (ni _ (by omega)) (.br (fun _=>.some trivial) fun _=>.some trivial)) fun k hk=>.br (fun _=>hk _ trivial) fun _=>hk _ trivial
theorem cZ {l:List (Int×Bool)} (hl:l.length≤100) (s b:Int):Ok (g.iX l s b) (fun _=>True):=⟨_,sk s b (by omega),trivial⟩
def rQ (u:U7):U1:=((u.2.2.2.2.2.1,(u.2.2.2.2.2.2.1,(u.2.2.2.2.2.2.2.1,(u.2.2.2.2.2.2.2.2.1,(u.2.2.2.2.2.2.2.2.2.1,(u.2.2.2.2.2.2.2.2.2.2.1,u.2.2.2.2.2.2.2.2.2.2.2.1)))))),(u.2.2.2.2.2.2.2.2.2.2.2.2.1,(u.2.2.2.2.2.2.2.2.2.2.2.2.2.1,(u.2.2.2.2.2.2.2.2.2.2.2.2.2.2.1,(u.2.2.2.2.2.2.2.2.2.2.2.2.2.2.2.1,(u.2.2.2.2.2.2.2.2.2.2.2.2.2.2.2.2.1,(u.2.2.2.2.2.2.2.2.2.2.2.2.2.2.2.2.2.1,(u.2.2.2.2.2.2.2.2.2.2.2.2.2.2.2.2.2.2.1,(u.2.2.2.2.2.2.2.2.2.2.2.2.2.2.2.2.2.2.2.1,(u.2.2.2.2.2.2.2.2.2.2.2.2.2.2.2.2.2.2.2.2.1,(u.2.2.2.2.2.2.2.2.2.2.2.2.2.2.2.2.2.2.2.2.2.1,(u.2.2.2.2.2.2.2.2.2.2.2.2.2.2.2.2.2.2.2.2.2.2.1,(u.2.2.2.2.2.2.2.2.2.2.2.2.2.2.2.2.2.2.2.2.2.2.2.1,(u.2.2.2.2.2.2.2.2.2.2.2.2.2.2.2.2.2.2.2.2.2.2.2.2.1,(u.2.2.2.2.2.2.2.2.2.2.2.2.2.2.2.2.2.2.2.2.2.2.2.2.2.1,(u.2.2.2.2.2.2.2.2.2.2.2.2.2.2.2.2.2.2.2.2.2.2.2.2.2.2.1,(u.2.2.2.2.2.2.2.2.2.2.2.2.2.2.2.2.2.2.2.2.2.2.2.2.2.2.2.1,(u.2.2.2.2.2.2.2.2.2.2.2.2.2.2.2.2.2.2.2.2.2.2.2.2.2.2.2.2.1,(u.2.2.2.2.2.2.2.2.2.2.2.2.2.2.2.2.2.2.2.2.2.2.2.2.2.2.2.2.2.1,u.2.2.2.2.2.2.2.2.2.2.2.2.2.2.2.2.2.2.2.2.2.2.2.2.2.2.2.2.2.2.1)))))))))))))))))))
set_option maxHeartbeats 4000000 in
theorem B4 {n:Nat} {r:U1} (h:rI n r) (ho:Rn.op r≠4∧Rn.op r≠5∧Rn.op r≠7) (GQ:Rn.pc r≠0∧Rn.pc r≠1) {c0:T1} {d0:T2} {a j m:Nat} (hA:AR c0 d0 a j m) (p:mE):Ok (g.jO p a r c0 d0) (L1 n r c0 a j m):=by
 unfold g.jO
 obtain ⟨h1,h2,h3,h4,h5,h6,h7,h8⟩:=h
 have hl:(Rn.list r).length≤n+1:=by omega
 have hs:(Rn.said r).length≤n+1:=by omega
 have mf:(Rn.op r=8∧(Rn.pc r=5∨Rn.pc r=6∨Rn.pc r=9))∨(Rn.op r=9∧(Rn.pc r=5∨Rn.pc r=6∨Rn.pc r=7∨Rn.pc r=8∨Rn.pc r=10))∨(Rn.op r=10∧Rn.pc r=11)∨(Rn.op r=11∧(Rn.pc r=12∨Rn.pc r=7∨Rn.pc r=8)):=by
  unfold dm at h8;omega
 have hd:∀{x y:Option xZ} {P:xZ→Prop},Ok y P→Ok (br (Rn.done r) x y) P:=fun {x y P} k=>by rw [h4];exact k
 have tell:∀(r':U1) (c k:Int) (d':T2),r'.1=r.1→Rn.ch r'=Rn.ch r→Rn.list r'=Rn.list r→Rn.said r'=Rn.said r→AR c0 d' a j m→(∀k:Nat,Cp (Rn.op r) (Rn.pc r) k→lG (Rn.op r) (k+1) c)→Ok (bd (g.bb r' c k) (fun p=>some ((p.1.1,(0,())),(d',())))) (L1 n r c0 a j m):=fun r' c k d' e1 e2 e3 e4 sf hF=>
  .bd (jE n c k e1 e2 (by rw [e3];exact hl) (by rw [e4];exact hs) h7 hF) fun q hh=>.some ⟨hh.1,sf⟩
 have fin:∀(r':U1) (d':T2),r'.1=r.1→Rn.ch r'=Rn.ch r→Rn.list r'=Rn.list r→Rn.said r'=Rn.said r→Rn.done r'=Rn.done r→Rn.df r'=Rn.df r→dm (Rn.op r) (Rn.pc r')→AR c0 d' a j m→(∀k:Nat,Cp (Rn.op r) (Rn.pc r) k→Cp (Rn.op r) (Rn.pc r') (k+1))→Ok (some ((r',(0,())),(d',()))) (L1 n r c0 a j m):=fun r' d' e1 e2 e3 e4 e5 e6 e7 sf hC=>
  .some ⟨⟨e1,e2,by rw [e3];exact hl,by rw [e4];exact hs,fun e=>absurd (h4.symm.trans (e5.symm.trans e)) (by simp),e6.trans (h5.trans (h4.symm.trans e5.symm)),fun _ e=>by have e:Rn.pc r'=20∨Rn.pc r'=21:=e;unfold dm at e7;omega,fun _=>e7,fun k hk=>⟨fun _=>hC k hk,fun h=>absurd (h4.symm.trans (e5.symm.trans h)) (by simp)⟩⟩,sf⟩
 have hR:(Rn.pc r=5∨Rn.pc r=6∨Rn.pc r=7∨Rn.pc r=8)→∀c:Int,ax (af c 0)=true→∀k:Nat,Cp (Rn.op r) (Rn.pc r) k→lG (Rn.op r) (k+1) c:=fun h c hc k hk=>by
  have hc:=bh.1 (kh.1 hc)
  unfold Cp at hk;unfold lG;omega
 have pcs:∀k:Int,Rn.pc r=k→dm (Rn.op r) k:=fun k e=>e▸h8
 refine .jn (hd (.gP (aL _ _ _) (.br (fun hb=>?_) fun _=>.jn ?_)))
 ·have hb:=kh.1 hb
  have hw:within (Rn.pc r) 5 12=true:=fm.2 (by omega)
  rw [show r.2.1=Rn.pc r from rfl,hw] at hb;cases hb
 refine .br (fun hp=>?_) fun n1=>.br (fun hp=>?_) fun n2=>.br (fun hp=>?_) fun n3=>.br (fun hp=>?_) fun n4=>?_
 ·have hp:Rn.pc r=5:=bo.1 hp
  have q1:dm (Rn.op r) 6:=by unfold dm;omega
  have qc:∀k:Nat,Cp (Rn.op r) (Rn.pc r) k→Cp (Rn.op r) 6 (k+1):=fun k hk=>by unfold Cp at hk ⊢;omega
  refine .bd (bU _) fun q _=>.bd (cA hA _ _) fun q _=>.br (fun _=>?_) fun _=>?_
  ·exact .br (fun z=>tell _ _ _ _ rfl rfl rfl rfl hA (hR (by omega) _ z)) fun _=>fin _ _ rfl rfl rfl rfl rfl rfl q1 hA qc
  ·exact .br (fun z=>tell _ _ _ _ rfl rfl rfl rfl hA (hR (by omega) _ z)) fun _=>fin _ _ rfl rfl rfl rfl rfl rfl q1 hA qc
 ·have hp:Rn.pc r=6:=bo.1 hp
  have q0:=pcs _ hp
  refine .bd (bU _) fun q _=>.bd (cQ hA _) fun q _=>.br (fun _=>?_) fun _=>.br (fun _=>?_) fun _=>.br (fun _=>?_) fun _=>.gP (aL _ _ _) (.br (fun _=>?_) fun _=>.bd (cW hA _ _) fun q _=>.br (fun e8=>?_) fun n8=>.br (fun e8=>?_) fun _=>.bd (cK h3 _ _) fun q _=>?_)
  ·exact .br (fun z=>tell _ _ _ _ rfl rfl rfl rfl hA (hR (by omega) _ z)) fun z=>nomatch (show true=false from z)
  ·exact .br (fun z=>tell _ _ _ _ rfl rfl rfl rfl hA (hR (by omega) _ z)) fun z=>nomatch (show true=false from z)
  ·exact .br (fun z=>tell _ _ _ _ rfl rfl rfl rfl hA (hR (by omega) _ z)) fun z=>nomatch (show true=false from z)
  ·exact .br (fun z=>tell _ _ _ _ rfl rfl rfl rfl hA (hR (by omega) _ z)) fun z=>nomatch (show true=false from z)
  ·have e8:Rn.op r=8:=bo.1 e8
   have q1:dm (Rn.op r) 9:=by unfold dm;omega
   have qc:∀k:Nat,Cp (Rn.op r) (Rn.pc r) k→Cp (Rn.op r) 9 (k+1):=fun k hk=>by unfold Cp at hk ⊢;omega
   exact .br (fun z=>tell _ _ _ _ rfl rfl rfl rfl hA (hR (by omega) _ z)) fun _=>fin _ _ rfl rfl rfl rfl rfl rfl q1 hA qc
  ·have n8:¬Rn.op r=8:=bh.1 n8
   have q1:dm (Rn.op r) 10:=by unfold dm;omega
   have qc:∀k:Nat,Cp (Rn.op r) (Rn.pc r) k→Cp (Rn.op r) 10 (k+1):=fun k hk=>by unfold Cp at hk ⊢;omega
   exact .br (fun z=>tell _ _ _ _ rfl rfl rfl rfl hA (hR (by omega) _ z)) fun _=>fin _ _ rfl rfl rfl rfl rfl rfl q1 hA qc
  ·have n8:¬Rn.op r=8:=bh.1 n8
   have q1:dm (Rn.op r) 7:=by unfold dm;omega
   have qc:∀k:Nat,Cp (Rn.op r) (Rn.pc r) k→Cp (Rn.op r) 7 (k+1):=fun k hk=>by unfold Cp at hk ⊢;omega
   exact .br (fun z=>tell _ _ _ _ rfl rfl rfl rfl hA (hR (by omega) _ z)) fun _=>fin _ _ rfl rfl rfl rfl rfl rfl q1 hA qc
 ·have hp:Rn.pc r=7:=bo.1 hp
  have q1:dm (Rn.op r) 8:=by unfold dm;omega
  have qc:∀k:Nat,Cp (Rn.op r) (Rn.pc r) k→Cp (Rn.op r) 8 (k+1):=fun k hk=>by unfold Cp at hk ⊢;omega
  refine .bd (bU _) fun q _=>.bd (cA hA _ _) fun q _=>.br (fun _=>?_) fun _=>?_
  ·exact .br (fun z=>tell _ _ _ _ rfl rfl rfl rfl hA (hR (by omega) _ z)) fun _=>fin _ _ rfl rfl rfl rfl rfl rfl q1 hA qc
  ·exact .br (fun z=>tell _ _ _ _ rfl rfl rfl rfl hA (hR (by omega) _ z)) fun _=>fin _ _ rfl rfl rfl rfl rfl rfl q1 hA qc
 ·have hp:Rn.pc r=8:=bo.1 hp
  refine .bd (bU _) fun q _=>.kS (fun s=>rQ s.2.2.2.1.1=r) (fun s AT=>?_) fun k hk=>.bd (cQ hA _) fun q _=>.br (fun _=>hk _ rfl) fun _=>.br (fun _=>hk _ rfl) fun _=>.br (fun _=>hk _ rfl) fun _=>hk _ rfl
  have e1:(rQ s.2.2.2.1.1).1=r.1:=congrArg (fun r:U1=>r.1) AT
  have e2:Rn.ch (rQ s.2.2.2.1.1)=Rn.ch r:=congrArg Rn.ch AT
  have e3:Rn.list (rQ s.2.2.2.1.1)=Rn.list r:=congrArg Rn.list AT
  have e4:Rn.said (rQ s.2.2.2.1.1)=Rn.said r:=congrArg Rn.said AT
  have e5:Rn.done (rQ s.2.2.2.1.1)=Rn.done r:=congrArg Rn.done AT
  have e6:Rn.df (rQ s.2.2.2.1.1)=Rn.df r:=congrArg Rn.df AT
  have hc:(Rn.ch (rQ s.2.2.2.1.1)).length≤100:=by rw [AT];exact h3
  refine .kS (fun t=>dm (Rn.op r) t.1.2.1∧∀k:Nat,Cp (Rn.op r) (Rn.pc r) k→Cp (Rn.op r) t.1.2.1 (k+1)) (fun t ht=>.br (fun _=>.bd (cZ hc _ _) fun q _=>.br (fun _=>?_) fun _=>?_) fun _=>?_) fun k hk=>.br (fun h9=>.bd (bU _) fun q _=>hk _ ?_) fun h9=>hk _ ?_
  ·exact .br (fun z=>tell _ _ _ _ (by exact e1) (by exact e2) (by exact e3) (by exact e4) hA (hR (by omega) _ z)) fun _=>fin _ _ (by exact e1) (by exact e2) (by exact e3) (by exact e4) (by exact e5) (by exact e6) ht.1 hA ht.2
  ·exact .br (fun z=>tell _ _ _ _ (by exact e1) (by exact e2) (by exact e3) (by exact e4) hA (hR (by omega) _ z)) fun _=>fin _ _ (by exact e1) (by exact e2) (by exact e3) (by exact e4) (by exact e5) (by exact e6) ht.1 hA ht.2
  ·exact .br (fun z=>tell _ _ _ _ (by exact e1) (by exact e2) (by exact e3) (by exact e4) hA (hR (by omega) _ z)) fun _=>fin _ _ (by exact e1) (by exact e2) (by exact e3) (by exact e4) (by exact e5) (by exact e6) ht.1 hA ht.2
  ·have h9:Rn.op (rQ s.2.2.2.1.1)=9:=bo.1 h9
   rw [AT] at h9
   show dm (Rn.op r) 10∧∀k:Nat,Cp (Rn.op r) (Rn.pc r) k→Cp (Rn.op r) 10 (k+1)
   refine ⟨by unfold dm;omega,fun k hk=>?_⟩
   unfold Cp at hk ⊢;omega
  ·have h9:¬Rn.op (rQ s.2.2.2.1.1)=9:=bh.1 h9
   rw [AT] at h9
   show dm (Rn.op r) 12∧∀k:Nat,Cp (Rn.op r) (Rn.pc r) k→Cp (Rn.op r) 12 (k+1)
   refine ⟨by unfold dm;omega,fun k hk=>?_⟩
   unfold Cp at hk ⊢;omega
 ·have n1:¬Rn.pc r=_:=bh.1 n1;have n2:¬Rn.pc r=_:=bh.1 n2;have n3:¬Rn.pc r=_:=bh.1 n3;have n4:¬Rn.pc r=_:=bh.1 n4
  exact .kS (fun s=>AR c0 s.2.2.2.2.1 a j m) (fun s h'=>.bd (jE n _ _ rfl rfl hl hs h7 (fun k hk=>by unfold Cp at hk;unfold lG;omega)) fun q hh=>.some ⟨hh.1,h'⟩) fun k hk=>
   .kS (fun _=>True) (fun s _=>.bd (fc hA _ _) fun q hq=>hk _ hq) fun k2 DG=>.kS (fun _=>True) (fun s _=>.bd (dC hA _) fun q _=>hk _ hA) fun k3 hk3=>.br (fun _=>.bd (bC _ _ _) fun q _=>hk3 _ trivial) fun _=>.br (fun _=>hk3 _ trivial) fun _=>.br (fun _=>.bd (bC _ _ _) fun q _=>DG _ trivial) fun _=>DG _ trivial
end Go.Proofs.YtfffmmahegdfiaaGreat
namespace Go.oX
open Go.Bm
def Ky (o:oQ):Prop:=(0≤o.1∧o.1≤4)∧(0≤o.2.1∧o.2.1≤99)∧(0≤o.2.2∧o.2.2≤8)
def vo (l:List oQ):Prop:=l.length≤8∧∀o∈l,Ky o
def D2 (l:List (List oQ)):Prop:=l.length≤8∧∀x∈l,vo x
end Go.oX
namespace Go.Proofs.YtfffmmahegdfiaaGreat
open Go.Bm Go.oX
theorem Jf {α:Type} (x:α):zN (len [x])=1:=by rw [fL,aI];rfl
theorem BW {α:Type} (x y:α):zN (len [x,y])=2:=by rw [fL,aI];rfl
theorem xT {α:Type} (l:List α):cat [] l=l:=rfl
section
variable (a0:List oQ) (a1:Int) (a2:List Int)
theorem ta {x:Int} (hl:a2.length≤100) (h:within x 0 (aE .i64 (zN (len (cat [] a2))) 1)=true):0≤x∧x<a2.length:=by
 rw [xT,fL,aI,bS (by omega),fm] at h;omega
theorem fl2 {K} {P} (hl:a2.length≤100) (hK:∀b,(b=true→0≤(nth (0,(0,0)) a0 (nN a1)).2.1∧(nth (0,(0,0)) a0 (nN a1)).2.1<a2.length)→Ok (K ((b,()),((),((),((),()))))) P):Ok (loop (g.mm a0 a1 a2 K) ((0,()),((),((),((),()))))) P:=by
 refine .loop (fun m s=>(s.1.1=0∧m=1)∨(s.1.1=1∧m=0∧0≤(nth (0,(0,0)) a0 (nN a1)).2.1∧(nth (0,(0,0)) a0 (nN a1)).2.1<a2.length)) (fun m s gg hI ih=>?_) (N:=1) (by unfold lQ;omega) (.inl ⟨rfl,rfl⟩)
 unfold g.mm
 rw [Jf]
 refine .br (fun hb=>?_) fun hb=>hK _ fun _=>?_
 ·have hb:=eh.1 hb
  have hs:s.1.1=0:=by omega
  rw [hs]
  refine .gd (by rw [bF];omega) (.gd (by rw [bZ,dg,aI,zO];omega) (.gP (aL _ _ _) (.br (fun _=>hK _ fun e=>?_) fun hw=>ih 0 _ (by omega) (.inr ⟨rfl,rfl,ta a2 hl (eI.1 hw)⟩))))
  exact absurd e (by decide)
 ·have hb:=gD.1 hb;omega
theorem fl1 {K} {P} (hl:a2.length≤100) (hK:∀b,(b=true→(0≤(nth (0,(0,0)) a0 (nN a1)).2.1∧(nth (0,(0,0)) a0 (nN a1)).2.1<a2.length)∧0≤(nth (0,(0,0)) a0 (nN a1)).2.2∧(nth (0,(0,0)) a0 (nN a1)).2.2<a2.length)→Ok (K ((b,()),((),((),((),()))))) P):Ok (loop (g.mn a0 a1 a2 K) ((0,()),((),((),((),()))))) P:=by
 refine .loop (fun m s=>(s.1.1=0∧m=2)∨(s.1.1=1∧m=1∧0≤(nth (0,(0,0)) a0 (nN a1)).2.1∧(nth (0,(0,0)) a0 (nN a1)).2.1<a2.length)∨(s.1.1=2∧m=0∧(0≤(nth (0,(0,0)) a0 (nN a1)).2.1∧(nth (0,(0,0)) a0 (nN a1)).2.1<a2.length)∧0≤(nth (0,(0,0)) a0 (nN a1)).2.2∧(nth (0,(0,0)) a0 (nN a1)).2.2<a2.length)) (fun m s gg hI ih=>?_) (N:=2) (by unfold lQ;omega) (.inl ⟨rfl,rfl⟩)
 unfold g.mn
 rw [BW]
 refine .br (fun hb=>?_) fun hb=>hK _ fun _=>?_
 ·have hb:=eh.1 hb
  rcases hI with ⟨hs,hm⟩ | ⟨hs,hm,h1⟩ | ⟨hs,hm,h1⟩
  ·rw [hs]
   refine .gd (by rw [bF];omega) (.gd (by rw [bZ,dg,aI];show _<2;omega) (.gP (aL _ _ _) (.br (fun _=>hK _ fun e=>absurd e (by decide)) fun hw=>ih 1 _ (by omega) (.inr (.inl ⟨rfl,rfl,ta a2 hl (eI.1 hw)⟩)))))
  ·rw [hs]
   refine .gd (by rw [bF];omega) (.gd (by rw [bZ,dg,aI];show _<2;omega) (.gP (aL _ _ _) (.br (fun _=>hK _ fun e=>absurd e (by decide)) fun hw=>ih 0 _ (by omega) (.inr (.inr ⟨rfl,rfl,h1,ta a2 hl (eI.1 hw)⟩)))))
  ·omega
 ·have hb:=gD.1 hb;omega
theorem fl0 {K} {P} (hl:a2.length≤100) (hK:∀b,Ok (K ((b,()),((),((),((),()))))) P):Ok (loop (g.mo a0 a1 a2 K) ((0,()),((),((),((),()))))) P:=by
 refine .loop (fun m s=>(s.1.1=0∧m=1)∨(s.1.1=1∧m=0∧0≤(nth (0,(0,0)) a0 (nN a1)).2.1∧(nth (0,(0,0)) a0 (nN a1)).2.1<a2.length)) (fun m s gg hI ih=>?_) (N:=1) (by unfold lQ;omega) (.inl ⟨rfl,rfl⟩)
 unfold g.mo
 rw [Jf]
 refine .br (fun hb=>?_) fun hb=>?_
 ·have hb:=eh.1 hb
  have hs:s.1.1=0:=by omega
  rw [hs]
  refine .gd (by rw [bF];omega) (.gd (by rw [bZ,dg,aI,zO];omega) (.gP (aL _ _ _) (.br (fun _=>.br (fun e=>absurd e (by decide)) fun _=>hK _) fun hw=>ih 0 _ (by omega) (.inr ⟨rfl,rfl,ta a2 hl (eI.1 hw)⟩))))
 ·have hb:=gD.1 hb
  rcases hI with h | ⟨h1,h2,h3,h4⟩
  ·omega
  ·exact .gd (by rw [bF];omega) (.gd (by rw [bZ,dg,xT,aI];omega) (hK _))
theorem wa (nE:vo a0) (hl:a2.length≤100):Ok (g.mq a0 a1 a2) (fun r=>r.1.2.1.length=a2.length∧r.1.2.2.1.length≤1):=by
 unfold g.mq
 refine .gd (by rw [dt,aI];show 0+_≤_;omega) (.gP (aL _ _ _) (.br (fun _=>.some ⟨rfl,by show 0≤1;omega⟩) fun hw=>?_))
 have hw:=eI.1 hw
 have hlen:=nE.1
 rw [fL,aI,bS (by omega),fm] at hw
 have ho:Ky (nth (0,(0,0)) a0 (nN a1)):=by
  have:nth (0,(0,0)) a0 (nN a1)∈a0:=by
   unfold nth
   rw [dg,zA,zD (show a1.toNat<a0.length by omega)]
   exact List.getElem_mem _
  exact nE.2 _ this
 obtain ⟨⟨o1,o2⟩,o3,o4⟩:=ho
 refine .gd (by rw [bF];omega) (.gd (by rw [bZ,dg,aI];omega) (.kS (fun s=>s.2.2.2.1.1.1.length=a2.length∧s.2.2.2.1.1.2.1.length≤1) (fun s hs=>.some hs) fun k hk=>?_))
 have z:([]:List Int).length≤1:=by decide
 refine .br (fun _=>.br (fun _=>.gd (by rw [dt,aI];show 1≤_;omega) (hk _ ⟨rfl,Nat.le_refl 1⟩)) fun n0=>.br (fun _=>.jn (fl2 a0 a1 a2 hl fun b hb=>.br (fun e=>?_) fun _=>hk _ ⟨rfl,z⟩)) fun n1=>.br (fun _=>.jn (fl1 a0 a1 a2 hl fun b hb=>.br (fun e=>?_) fun _=>hk _ ⟨rfl,z⟩)) fun n2=>.br (fun _=>.jn (fl0 a0 a1 a2 hl fun b=>.br (fun _=>hk _ ⟨rfl,z⟩) fun _=>hk _ ⟨rfl,z⟩)) fun n3=>.br (fun _=>hk _ ⟨rfl,z⟩) fun n4=>?_) fun _=>hk _ ⟨rfl,z⟩
 ·have:=hb e
  exact .gd (by rw [bF];omega) (.gd (by rw [bZ,dg,xT,aI];omega) (hk _ ⟨by show (aS (cat [] a2) _ _).length=_;rw [xT];unfold aS;rw [zM],z⟩))
 ·have:=hb e
  exact .gd (by rw [bF];omega) (.gd (by rw [bZ,dg,xT,aI];omega) (.gd (by rw [bF];omega) (.gd (by rw [bZ,dg,xT,aI];omega) (hk _ ⟨by show (aS (cat [] a2) _ _).length=_;rw [xT];unfold aS;rw [zM],z⟩))))
 ·have n0:=bh.1 n0;have n1:=bh.1 n1;have n2:=bh.1 n2;have n3:=bh.1 n3;have n4:=bh.1 n4
  omega
end
theorem Bx {x y:List Int} (hx:x.length≤1000000) (hy:y.length≤1000000):Ok (g.iM [x,y]) (fun r=>r.1.1.length=x.length+y.length):=by
 unfold g.iM
 refine .loop (fun m s=>0≤s.1.1∧((s.1.2.1=0∧m=2∧s.1.1=0)∨(s.1.2.1=1∧m=1∧s.1.1≤1000000)∨(s.1.2.1=2∧m=0∧s.1.1≤2000000))) (fun m s gg hI ih=>?_) (N:=2) (by unfold lQ;omega) ⟨by decide,.inl ⟨rfl,rfl,rfl⟩⟩
 unfold g.kI
 rw [BW]
 refine .br (fun hb=>?_) fun hb=>?_
 ·have hb:=eh.1 hb
  obtain ⟨h0,⟨h1,h2,h3⟩ | ⟨h1,h2,h3⟩ | ⟨h1,h2,h3⟩⟩:=hI
  ·have e:ae .i64 s.1.1 (zN (len x))=s.1.1+x.length:=by rw [fL,aI];exact aU (by omega)
   rw [h1]
   refine .gd (by rw [bF];omega) (.gd (by rw [bZ,dg,aI];show _<2;omega) (.br (fun hb=>?_) fun _=>ih 1 _ (by omega) ⟨?_,.inr (.inl ⟨rfl,rfl,?_⟩)⟩))
   ·have hb:aY (ae .i64 s.1.1 (zN (len x))) 0=true:=hb
    rw [e] at hb;have:=eh.1 hb;omega
   ·show 0≤ae .i64 s.1.1 (zN (len x));omega
   ·show ae .i64 s.1.1 (zN (len x))≤_;omega
  ·have e:ae .i64 s.1.1 (zN (len y))=s.1.1+y.length:=by rw [fL,aI];exact aU (by omega)
   rw [h1]
   refine .gd (by rw [bF];omega) (.gd (by rw [bZ,dg,aI];show _<2;omega) (.br (fun hb=>?_) fun _=>ih 0 _ (by omega) ⟨?_,.inr (.inr ⟨rfl,rfl,?_⟩)⟩))
   ·have hb:aY (ae .i64 s.1.1 (zN (len y))) 0=true:=hb
    rw [e] at hb;have:=eh.1 hb;omega
   ·show 0≤ae .i64 s.1.1 (zN (len y));omega
   ·show ae .i64 s.1.1 (zN (len y))≤_;omega
  ·omega
 ·have hb:=gD.1 hb
  refine .jn (.gd (by rw [bF];omega) (.gd (by rw [dt,dg];omega) ?_))
  refine .loop (fun m s=>(s.1.1=0∧m=2∧s.2.1.1.length=0)∨(s.1.1=1∧m=1∧s.2.1.1.length=x.length)∨(s.1.1=2∧m=0∧s.2.1.1.length=x.length+y.length)) (fun m s gg hI ih=>?_) (N:=2) (by unfold lQ;omega) (.inl ⟨rfl,rfl,rfl⟩)
  unfold g.kJ
  rw [BW]
  refine .br (fun hb=>?_) fun hb=>?_
  ·have hb:=eh.1 hb
   rcases hI with ⟨h1,h2,h3⟩ | ⟨h1,h2,h3⟩ | ⟨h1,h2,h3⟩
   ·rw [h1]
    refine .gd (by rw [bF];omega) (.gd (by rw [bZ,dg,aI];show _<2;omega) (.gd (by show bz (aK (len s.2.1.1) (len x)) _;rw [dt,aI,aI];show _+_≤_;omega) (ih 1 _ (by omega) (.inr (.inl ⟨rfl,rfl,?_⟩)))))
    show (s.2.1.1++x).length=_
    rw [zY];omega
   ·rw [h1]
    refine .gd (by rw [bF];omega) (.gd (by rw [bZ,dg,aI];show _<2;omega) (.gd (by show bz (aK (len s.2.1.1) (len y)) _;rw [dt,aI,aI];show _+_≤_;omega) (ih 0 _ (by omega) (.inr (.inr ⟨rfl,rfl,?_⟩)))))
    show (s.2.1.1++y).length=_
    rw [zY];omega
   ·omega
  ·have hb:=gD.1 hb
   refine .some ?_
   show s.2.1.1.length=_
   omega
open Go.Bm Go.oX
def tb (u:(Int×(Int×(Int×(Int×((Option Nat)×((Option Nat)×U5))))))):U1:=((u.2.2.2.2.2.2.1,(u.2.2.2.2.2.2.2.1,(u.2.2.2.2.2.2.2.2.1,(u.2.2.2.2.2.2.2.2.2.1,(u.2.2.2.2.2.2.2.2.2.2.1,(u.2.2.2.2.2.2.2.2.2.2.2.1,u.2.2.2.2.2.2.2.2.2.2.2.2.1)))))),(u.2.2.2.2.2.2.2.2.2.2.2.2.2.1,(u.2.2.2.2.2.2.2.2.2.2.2.2.2.2.1,(u.2.2.2.2.2.2.2.2.2.2.2.2.2.2.2.1,(u.2.2.2.2.2.2.2.2.2.2.2.2.2.2.2.2.1,(u.2.2.2.2.2.2.2.2.2.2.2.2.2.2.2.2.2.1,(u.2.2.2.2.2.2.2.2.2.2.2.2.2.2.2.2.2.2.1,(u.2.2.2.2.2.2.2.2.2.2.2.2.2.2.2.2.2.2.2.1,(u.2.2.2.2.2.2.2.2.2.2.2.2.2.2.2.2.2.2.2.2.1,(u.2.2.2.2.2.2.2.2.2.2.2.2.2.2.2.2.2.2.2.2.2.1,(u.2.2.2.2.2.2.2.2.2.2.2.2.2.2.2.2.2.2.2.2.2.2.1,(u.2.2.2.2.2.2.2.2.2.2.2.2.2.2.2.2.2.2.2.2.2.2.2.1,(u.2.2.2.2.2.2.2.2.2.2.2.2.2.2.2.2.2.2.2.2.2.2.2.2.1,(u.2.2.2.2.2.2.2.2.2.2.2.2.2.2.2.2.2.2.2.2.2.2.2.2.2.1,(u.2.2.2.2.2.2.2.2.2.2.2.2.2.2.2.2.2.2.2.2.2.2.2.2.2.2.1,(u.2.2.2.2.2.2.2.2.2.2.2.2.2.2.2.2.2.2.2.2.2.2.2.2.2.2.2.1,(u.2.2.2.2.2.2.2.2.2.2.2.2.2.2.2.2.2.2.2.2.2.2.2.2.2.2.2.2.1,(u.2.2.2.2.2.2.2.2.2.2.2.2.2.2.2.2.2.2.2.2.2.2.2.2.2.2.2.2.2.1,(u.2.2.2.2.2.2.2.2.2.2.2.2.2.2.2.2.2.2.2.2.2.2.2.2.2.2.2.2.2.2.1,u.2.2.2.2.2.2.2.2.2.2.2.2.2.2.2.2.2.2.2.2.2.2.2.2.2.2.2.2.2.2.2.1)))))))))))))))))))
abbrev L5:=((U1×(Int×Unit))×(T1×(T2×(T9×Unit))))
def Mv (n:Nat) (r:U1) (c0:T1) (a j m:Nat) (d9:T9) (x:L5):Prop:=SP n r x.1.1∧x.2.1=c0∧AR c0 x.2.2.1 a j m∧x.2.2.2.1=d9
def EU (fo:Option Nat) (d9:T9):Prop:=∃iV,D2 iV∧((fo=none∧iV=[])∨∃jf,fo=some jf∧aT d9 jf=some iV)
theorem sS {fo:Option Nat} {d9:T9} (h:EU fo d9) (t:Int):Ok (g.mr fo t d9) (fun r=>vo r.1.1):=by
 have z:vo []:=⟨by decide,fun o h=>by cases h⟩
 obtain ⟨iV,hf,⟨rfl,rfl⟩ | ⟨jf,rfl,hj⟩⟩:=h
 ·unfold g.mr
  refine .Ao rfl (.gP (aL _ _ _) (.br (fun _=>.some z) fun hb=>?_))
  have:=fm.1 (eI.1 hb);omega
 ·unfold g.mr
  have h8:=hf.1
  refine .gC rfl (.gP hj (.gP (aL _ _ _) (.br (fun _=>.some z) fun hb=>?_)))
  have hb:=fm.1 (eI.1 hb)
  rw [fL,aI,bS (by omega)] at hb
  refine .gC rfl (.gP hj (.gd (by rw [bF];omega) (.gd (by rw [bZ,dg,aI];omega) (.gP hj (.some ?_)))))
  show vo (nth [] iV (nN t))
  unfold nth
  rw [dg,zA,zD (show t.toNat<iV.length by omega)]
  exact hf.2 _ (List.getElem_mem _)
theorem ne_nil {α:Type} {l:List α} (h:aY 0 (zN (len l))=true):l≠[]:=by
 intro e
 rw [e,fL,aI] at h;have:=eh.1 h;exact absurd this (by simp)
theorem Jm {l:List Int} (h:l≠[]) (hl:l.length≤1000000):aE .i64 (zN (len l)) 1=((l.length-1:Nat):Int)∧l.length-1<l.length:=by
 have:0<l.length:=List.length_pos_iff.2 h
 rw [fL,aI,bS (by omega)]
 exact ⟨by omega,by omega⟩
theorem vL {n:Nat} {r:U1} (h:rI n r) (ho:Rn.op r=5) (GQ:Rn.pc r≠0) {c0:T1} {d0:T2} {a j m:Nat} (hA:AR c0 d0 a j m) (p:mE) {fo:Option Nat} {d9:T9} (hf:EU fo d9):Ok (g.g9 p fo a r c0 d0 d9) (Mv n r c0 a j m d9):=by
 unfold g.g9
 obtain ⟨h1,h2,h3,h4,h5,h6,h7,h8⟩:=h
 have hl:(Rn.list r).length≤n+1:=by omega
 have hs:(Rn.said r).length≤n+1:=by omega
 have Mj:15≤Rn.pc r∧Rn.pc r≤26:=by
  have GQ:¬Rn.pc r=0:=GQ
  unfold dm at h8;rw [ho] at h8;omega
 have hd:∀{x y:Option L5} {P:L5→Prop},Ok y P→Ok (br (Rn.done r) x y) P:=fun {x y P} k=>by rw [h4];exact k
 have tell:∀(c k:Int) (d':T2),AR c0 d' a j m→Ok (bd (g.bb r c k) (fun p=>some ((p.1.1,(0,())),(c0,(d',(d9,())))))) (Mv n r c0 a j m d9):=fun c k d' sf=>
  .bd (jE n c k rfl rfl hl hs h7 (fun k hk=>by unfold lG;omega)) fun q hh=>.some ⟨hh.1,rfl,sf,rfl⟩
 have fin:∀(k:Int) (r':U1) (c':T1) (d':T2),15≤k∧k≤26→Rn.pc r'=k→c'=c0→AR c0 d' a j m→r'.1=r.1→Rn.ch r'=Rn.ch r→Rn.done r'=Rn.done r→Rn.df r'=Rn.df r→(Rn.list r').length≤n+1→(Rn.said r').length≤n+1→(k=20∨k=21→Rn.list r'≠[])→Ok (some ((r',(0,())),(c',(d',(d9,()))))) (Mv n r c0 a j m d9):=fun k r' c' d' hk e0 ec sf e1 e2 e5 e6 e3 e4 e8=>
  .some ⟨⟨e1,e2,e3,e4,fun e=>absurd (h4.symm.trans (e5.symm.trans e)) (by simp),e6.trans (h5.trans (h4.symm.trans e5.symm)),fun _ e=>e8 (e0▸e),fun _=>.inr (.inr (.inr (.inr (.inl ⟨ho,by show 15≤Rn.pc r'∧Rn.pc r'≤26;rw [e0];exact hk⟩)))),fun m' hm=>⟨fun _=>by unfold Cp at hm ⊢;omega,fun h=>absurd (h4.symm.trans (e5.symm.trans h)) (by simp)⟩⟩,ec,sf,rfl⟩
 have pW:∀(k:Int) (r':U1) (d':T2),15≤k∧k≤26→(¬k=20∧¬k=21)→Rn.pc r'=k→AR c0 d' a j m→r'.1=r.1→Rn.ch r'=Rn.ch r→Rn.done r'=Rn.done r→Rn.df r'=Rn.df r→Rn.list r'=Rn.list r→Rn.said r'=Rn.said r→Ok (some ((r',(0,())),(c0,(d',(d9,()))))) (Mv n r c0 a j m d9):=fun k r' d' hk DG e0 sf e1 e2 e5 e6 e3 e4=>
  fin k r' c0 d' hk e0 rfl sf e1 e2 e5 e6 (by rw [e3];exact hl) (by rw [e4];exact hs) (fun e=>by omega)
 have D4:∀(r':U1) (d':T2),Rn.pc r'=20→aY 0 (zN (len (Rn.list r')))=true→(Rn.list r').length≤n+1→AR c0 d' a j m→r'.1=r.1→Rn.ch r'=Rn.ch r→Rn.done r'=Rn.done r→Rn.df r'=Rn.df r→Rn.said r'=Rn.said r→Ok (some ((r',(0,())),(c0,(d',(d9,()))))) (Mv n r c0 a j m d9):=fun r' d' e0 ez e3 sf e1 e2 e5 e6 e4=>
  fin 20 r' c0 d' (by decide) e0 rfl sf e1 e2 e5 e6 e3 (by rw [e4];exact hs) (fun _=>ne_nil ez)
 have rk:∀(k:Int) (r':U1) (d':T2),15≤k∧k≤26→(¬k=20∧¬k=21)→Rn.pc r'=k→(Rn.list r').length≤n+1→AR c0 d' a j m→r'.1=r.1→Rn.ch r'=Rn.ch r→Rn.done r'=Rn.done r→Rn.df r'=Rn.df r→Rn.said r'=Rn.said r→Ok (some ((r',(0,())),(c0,(d',(d9,()))))) (Mv n r c0 a j m d9):=fun k r' d' hk DG e0 e3 sf e1 e2 e5 e6 e4=>
  fin k r' c0 d' hk e0 rfl sf e1 e2 e5 e6 e3 (by rw [e4];exact hs) (fun e=>by omega)
 refine .br (fun _=>.jn (hd ?_)) fun n15=>.br (fun _=>.jn (hd ?_)) fun n16=>.br (fun _=>.jn (hd ?_)) fun n17=>.br (fun _=>.jn (hd ?_)) fun n18=>.br (fun _=>.jn (hd ?_)) fun n19=>.br (fun hp=>.jn (hd ?_)) fun n20=>.br (fun hp=>.jn (hd ?_)) fun n21=>.br (fun _=>.jn (hd ?_)) fun n22=>.br (fun _=>.jn (hd ?_)) fun n23=>.br (fun _=>.jn (hd ?_)) fun n24=>.br (fun _=>.jn (hd ?_)) fun n25=>.br (fun _=>.jn (hd ?_)) fun n26=>?_
 ·exact .bd (bC _ _ _) fun q _=>.bd (dC hA _) fun q _=>.bd (cj _) fun q _=>.gP (eR _) (.bd (cR _) fun q _=>pW 16 _ _ (by decide) (by decide) rfl hA rfl rfl rfl rfl rfl rfl)
 ·exact .bd (bC _ _ _) fun q _=>.bd (kF hA _ _ _) fun q hq=>.bd (cj _) fun q _=>.br (fun _=>pW 15 _ _ (by decide) (by decide) rfl hq rfl rfl rfl rfl rfl rfl) fun _=>.br (fun _=>pW 17 _ _ (by decide) (by decide) rfl hq rfl rfl rfl rfl rfl rfl) fun _=>tell _ _ _ hq
 ·exact .bd (bC _ _ _) fun q _=>.bd (dC hA _) fun q _=>pW 18 _ _ (by decide) (by decide) rfl hA rfl rfl rfl rfl rfl rfl
 ·exact .bd (bC _ _ _) fun q _=>.bd (dC hA _) fun q _=>.br (fun _=>pW 19 _ _ (by decide) (by decide) rfl hA rfl rfl rfl rfl rfl rfl) fun _=>.br (fun e=>D4 _ _ rfl e hl hA rfl rfl rfl rfl rfl) fun _=>.br (fun _=>pW 22 _ _ (by decide) (by decide) rfl hA rfl rfl rfl rfl rfl rfl) fun _=>pW 23 _ _ (by decide) (by decide) rfl hA rfl rfl rfl rfl rfl rfl
 ·have e1:∀x:Int,(cat (Rn.list r) [x]).length≤n+1:=fun x=>by show (Rn.list r++[x]).length≤_;rw [zY];show _+1≤_;omega
  refine .bd (cQ hA _) fun q _=>.br (fun _=>.opt (fun e0=>?_) fun jf e0=>?_) fun _=>?_
  rotate_left 2
  ·exact .br (fun _=>rk 19 _ _ (by decide) (by decide) rfl hl hA rfl rfl rfl rfl rfl) fun _=>.br (fun e=>D4 _ _ rfl e hl hA rfl rfl rfl rfl rfl) fun _=>.br (fun _=>rk 22 _ _ (by decide) (by decide) rfl hl hA rfl rfl rfl rfl rfl) fun _=>rk 23 _ _ (by decide) (by decide) rfl hl hA rfl rfl rfl rfl rfl
  all_goals
   rw [e0] at hf
   refine .bd (sS hf _) fun q _=>.br (fun _=>.gd (by show bz (len (Rn.list r)) _;rw [dt,aI];omega) (.gd (by show bz (aK (len (Rn.list r)) _) _;rw [dt,aI];show _+1≤_;omega) ?_)) fun _=>?_
   ·exact .br (fun _=>rk 19 _ _ (by decide) (by decide) rfl (e1 _) hA rfl rfl rfl rfl rfl) fun _=>.br (fun e=>D4 _ _ rfl e (e1 _) hA rfl rfl rfl rfl rfl) fun _=>.br (fun _=>rk 22 _ _ (by decide) (by decide) rfl (e1 _) hA rfl rfl rfl rfl rfl) fun _=>rk 23 _ _ (by decide) (by decide) rfl (e1 _) hA rfl rfl rfl rfl rfl
   ·exact .br (fun _=>rk 19 _ _ (by decide) (by decide) rfl hl hA rfl rfl rfl rfl rfl) fun _=>.br (fun e=>D4 _ _ rfl e hl hA rfl rfl rfl rfl rfl) fun _=>.br (fun _=>rk 22 _ _ (by decide) (by decide) rfl hl hA rfl rfl rfl rfl rfl) fun _=>rk 23 _ _ (by decide) (by decide) rfl hl hA rfl rfl rfl rfl rfl
 ·have hp:Rn.pc r=20:=bo.1 hp
  have j_:=h6 (.inl hp)
  obtain ⟨hi,W5⟩:=Jm j_ (by omega)
  refine .gd (by show bn (aE .i64 (zN (len (Rn.list r))) 1);rw [hi,bF];omega) (.gd (by show bp (nN (aE .i64 (zN (len (Rn.list r))) 1)) (len (Rn.list r));rw [hi,bZ,aI];show Int.toNat _<_;omega) (.bd (cQ hA _) fun q hq=>?_))
  obtain ⟨_,_,q1,q2⟩:=hq
  refine .gd (by rw [bF];exact q1) (.gd (by rw [dt,dg];omega) (.gd (by rw [bF];exact q1) (.gd (by rw [dt,dg];omega) ?_)))
  generalize hS:q.1.1.2.1=S at q1 q2 ⊢
  refine .loop (fun m' s=>s.2.2.2.2.1=c0∧s.2.1.1.length=S.toNat∧s.2.1.2.1.length=S.toNat∧∃k:Nat,s.1.1=(k:Int)∧k+m'=S.toNat) (fun m' s gg hI ih=>?_) (N:=S.toNat) (by unfold lQ;omega) ⟨rfl,by show (List.replicate _ _).length=_;rw [List.length_replicate];rfl,by show (List.replicate _ _).length=_;rw [List.length_replicate];rfl,0,rfl,by omega⟩
  obtain ⟨i1,i2,i3,k,i4,i5⟩:=hI
  unfold g.ng
  have eS:zN (len (rep (α:=Int) (nN q.1.1.2.1) 0))=S:=by
   rw [hS,fL,aI];show ((List.replicate _ _).length:Int)=_;rw [List.length_replicate];show ((S.toNat:Nat):Int)=S;omega
  rw [eS]
  have GZ:AR s.2.2.2.2.1 d0 a j m:=by rw [i1];exact hA
  refine .br (fun hb=>?_) fun hb=>?_
  ·have hb:=eh.1 hb
   rw [i4] at hb ⊢
   have ek:nN (k:Int)=k:=rfl
   refine .bd (cW GZ _ _) fun w _=>.gd (by rw [bF];omega) (.gd (by rw [bZ,aI,ek];omega) (.gd (by rw [bF];omega) (.gd (by rw [bZ,aI,ek];unfold aS;rw [zM];omega) (.bd (dC GZ _) fun w2 _=>.gd (by rw [bF];omega) (.gd (by rw [bZ,aI,ek];omega) (ih (m' - 1) _ (by omega) ⟨i1,?_,?_,k+1,?_,by omega⟩))))))
   ·show (aS _ _ _).length=_;unfold aS;rw [zM];exact i2
   ·show (aS _ _ _).length=_;unfold aS;rw [zM];exact i3
   ·show ae .i64 (k:Int) 1=_;rw [aU (by omega)];rfl
  ·refine .opt (fun e0=>?_) fun jf e0=>?_
   all_goals
    rw [e0] at hf
    refine .bd (sS hf _) fun w hw=>.bd (wa _ _ _ hw (by omega)) fun v hv=>?_
    obtain ⟨v1,v2⟩:=hv
    refine .loop (fun m' t=>t.2.2.2.2.1=c0∧AR c0 t.2.2.2.2.2.1 a j m∧∃k:Nat,t.1.1=(k:Int)∧k+m'=S.toNat) (fun m' t gg hI ih=>?_) (N:=S.toNat) (by unfold lQ;omega) ⟨i1,hA,0,rfl,by omega⟩
    obtain ⟨t1,t2,k,t4,t5⟩:=hI
    unfold g.kz
    have e2:zN (len s.2.1.1)=(S.toNat:Nat):=by rw [fL,aI,i2]
    rw [e2]
    have AW:AR t.2.2.2.2.1 t.2.2.2.2.2.1 a j m:=by rw [t1];exact t2
    refine .br (fun hb=>?_) fun hb=>?_
    ·have hb:=eh.1 hb
     rw [t4] at hb ⊢
     have ek:nN (k:Int)=k:=rfl
     refine .gd (by rw [bF];omega) (.gd (by rw [bZ,aI,ek];omega) (.gd (by rw [bF];omega) (.gd (by rw [bZ,aI,ek];omega) (.bd (fc AW _ _) fun w2 hw2=>ih (m' - 1) _ (by omega) ⟨t1,?_,k+1,?_,by omega⟩))))
     ·rw [t1] at hw2;exact hw2
     ·show ae .i64 (k:Int) 1=_;rw [aU (by omega)];rfl
    ·have hsl:∀x:List Int,x.length=(Rn.said r).length+v.1.2.2.1.length→x.length≤n+1:=fun x hx=>by omega
     refine .kS (fun s=>(tb s.2.2.2.1.1).1=r.1∧Rn.ch (tb s.2.2.2.1.1)=Rn.ch r∧Rn.list (tb s.2.2.2.1.1)=Rn.list r∧(Rn.said (tb s.2.2.2.1.1)).length≤n+1∧Rn.done (tb s.2.2.2.1.1)=Rn.done r∧Rn.df (tb s.2.2.2.1.1)=Rn.df r∧Rn.pc (tb s.2.2.2.1.1)=Rn.pc r) (fun s' AT=>?_) fun k hk=>.bd (Bx (by show (Rn.said r).length≤_;omega) (by omega)) fun w hw=>.br (fun _=>hk _ ⟨rfl,rfl,rfl,hsl _ hw,rfl,rfl,rfl⟩) fun _=>hk _ ⟨rfl,rfl,rfl,hsl _ hw,rfl,rfl,rfl⟩
     obtain ⟨u1,u2,u3,u4,u5,u6,u7⟩:=AT
     have QZ:Rn.list (tb s'.2.2.2.1.1)≠[]:=by rw [u3];exact j_
     have UE:(Rn.list (tb s'.2.2.2.1.1)).length≤n+1:=by rw [u3];exact hl
     exact .br (fun _=>fin 21 _ _ _ (by decide) rfl t1 t2 u1 u2 u5 u6 UE u4 (fun _=>QZ)) fun _=>fin 20 _ _ _ (by decide) (u7.trans hp) t1 t2 u1 u2 u5 u6 UE u4 (fun _=>QZ)
 ·have hp:Rn.pc r=21:=bo.1 hp
  have j_:=h6 (.inr hp)
  obtain ⟨hi,W5⟩:=Jm j_ (by omega)
  have hz:nN (aE .i64 (zN (len (Rn.list r))) 1)=(Rn.list r).length-1:=by rw [hi];rfl
  have ht:(tk (aw (nN (aE .i64 (zN (len (Rn.list r))) 1)) 0) (dr 0 (Rn.list r))).length≤n+1:=by
   show (List.take _ (List.drop 0 _)).length≤_
   rw [List.length_take,List.length_drop];omega
  have gl:bz (len (tk (aw (nN (aE .i64 (zN (len (Rn.list r))) 1)) 0) (dr 0 (Rn.list r)))) 16777216:=by rw [dt,aI];omega
  refine .gd (by show bn (aE .i64 (zN (len (Rn.list r))) 1);rw [hi,bF];omega) (.gd (by show bp (nN (aE .i64 (zN (len (Rn.list r))) 1)) (len (Rn.list r));rw [hz,bZ,aI];omega) (.bd (dv hA _) fun q hq=>.gd (by show bn (aE .i64 (zN (len (Rn.list r))) 1);rw [hi,bF];omega) (.gd (by rw [dt];exact Nat.zero_le _) (.gd (by show bz (nN (aE .i64 (zN (len (Rn.list r))) 1)) (len (Rn.list r));rw [hz,dt,aI];omega) (.gd gl ?_)))))
  exact .br (fun e=>D4 _ _ rfl e ht hq rfl rfl rfl rfl rfl) fun _=>.br (fun _=>rk 22 _ _ (by decide) (by decide) rfl ht hq rfl rfl rfl rfl rfl) fun _=>rk 23 _ _ (by decide) (by decide) rfl ht hq rfl rfl rfl rfl rfl
 ·exact .bd (cj _) fun q _=>.jn (.bd (eV _) fun q _=>.bd (cR _) fun q _=>.bd (bC _ _ _) fun q _=>.bd (fc hA _ _) fun q hq=>tell _ _ _ hq)
 ·exact .bd (bC _ _ _) fun q _=>.bd (fc hA _ _) fun q hq=>.br (fun _=>pW 24 _ _ (by decide) (by decide) rfl hq rfl rfl rfl rfl rfl rfl) fun _=>pW 25 _ _ (by decide) (by decide) rfl hq rfl rfl rfl rfl rfl rfl
 ·exact .bd (fc hA _ _) fun q hq=>.br (fun _=>pW 24 _ _ (by decide) (by decide) rfl hq rfl rfl rfl rfl rfl rfl) fun _=>pW 25 _ _ (by decide) (by decide) rfl hq rfl rfl rfl rfl rfl rfl
 ·exact .bd (bC _ _ _) fun q _=>.bd (fc hA _ _) fun q hq=>pW 26 _ _ (by decide) (by decide) rfl hq rfl rfl rfl rfl rfl rfl
 ·exact .bd (cj _) fun q _=>.jn (.gP (fQ _) (.bd (cR _) fun q _=>.bd (bC _ _ _) fun q _=>.bd (fc hA _ _) fun q hq=>tell _ _ _ hq))
 ·have n15:¬Rn.pc r=_:=bh.1 n15;have n16:¬Rn.pc r=_:=bh.1 n16;have n17:¬Rn.pc r=_:=bh.1 n17;have n18:¬Rn.pc r=_:=bh.1 n18;have n19:¬Rn.pc r=_:=bh.1 n19;have n20:¬Rn.pc r=_:=bh.1 n20;have n21:¬Rn.pc r=_:=bh.1 n21;have n22:¬Rn.pc r=_:=bh.1 n22;have n23:¬Rn.pc r=_:=bh.1 n23;have n24:¬Rn.pc r=_:=bh.1 n24;have n25:¬Rn.pc r=_:=bh.1 n25;have n26:¬Rn.pc r=_:=bh.1 n26
  omega
end Go.Proofs.YtfffmmahegdfiaaGreat
namespace Go.oX
open Go.Bm
def iZ (x:Xt):Prop:=0≤x.1∧0≤x.2∧x.1+x.2≤131072
def lP:List Xt→Int→Option Nat
 | [],_=>none
 | x::l,n=>if n≤x.2 then some 0 else (lP l n).map (· + 1)
def behind:List Xt→Int→Nat
 | [],_=>0
 | x::l,a=>if a<x.1+x.2 then 0 else behind l a+1
def mb (acc:List Xt) (x:Xt):List Xt:=match acc.getLast? with
 | some y=>if y.1+y.2=x.1 then acc.dropLast++[(y.1,y.2+x.2)] else acc++[x]
 | none=>[x]
def jh (acc l:List Xt):List Xt:=l.foldl mb acc
def DS (fr en:Int) (l:List Xt) (a n:Int):Option (List Xt):=
 if n<1∨n%8≠0∨a%8≠0∨¬(fr≤a∧a≤en-1)∨en-a<n then none
 else if behind l a<l.length∧(l.getD (behind l a) (0,0)).1<a+n then none
 else some (jh [] (l.take (behind l a)++[(a,n)]++l.drop (behind l a)))
theorem rF:∀{l:List Xt} {n:Int} {i:Nat},lP l n=some i→i<l.length∧n≤(l.getD i (0,0)).2
 | [],_,_,h=>by cases h
 | x::l,n,i,h=>by
  unfold lP at h
  split at h
  ·cases h;exact ⟨by simp,by simpa⟩
  ·cases hh:lP l n with
   | none=>rw [hh] at h;cases h
   | some j=>
    rw [hh] at h
    have h:j+1=i:=by simpa using h
    have:=rF hh
    subst h
    exact ⟨by simp;omega,by simpa using this.2⟩
theorem xU (l:List Xt) (n:Int) (k:Nat) (h:k<l.length):lP (l.drop k) n=if n≤l[k].2 then some 0 else (lP (l.drop (k+1)) n).map (· + 1):=by
 rw [List.drop_eq_getElem_cons h];rfl
theorem wB (l:List Xt) (a:Int) (k:Nat) (h:k<l.length):behind (l.drop k) a=if a<l[k].1+l[k].2 then 0 else behind (l.drop (k+1)) a+1:=by
 rw [List.drop_eq_getElem_cons h];rfl
theorem la:∀(l:List Xt) (a:Int),behind l a≤l.length
 | [],_=>Nat.le_refl _
 | x::l,a=>by
  unfold behind
  split
  ·omega
  ·have:=la l a;simp;omega
theorem Df {acc:List Xt} {x:Xt} (h:∀y∈acc,iZ y) (hx:iZ x):∀y∈mb acc x,iZ y:=by
 intro y hy
 unfold mb at hy
 split at hy
 ·rename_i z hz
  have hz':=h z (List.mem_of_getLast? hz)
  split at hy
  ·rcases zX.1 hy with hy | hy
   ·exact h y (List.dropLast_subset _ hy)
   ·rcases zF.1 hy with rfl
    unfold iZ at *
    simp only
    omega
  ·rcases zX.1 hy with hy | hy
   ·exact h y hy
   ·rcases zF.1 hy with rfl;exact hx
 ·rcases zF.1 hy with rfl;exact hx
theorem AP (acc:List Xt) (x:Xt):(mb acc x).length≤acc.length+1:=by
 unfold mb
 split
 ·split
  ·simp
  ·simp
 ·simp
theorem vJ (l:List Xt) (k:Nat) (h:k<l.length):jh [] (l.take (k+1))=mb (jh [] (l.take k)) l[k]:=by
 unfold jh
 rw [List.take_add_one,zD h,List.foldl_append]
 rfl
theorem pg:∀(l acc:List Xt),(∀y∈acc,iZ y)→(∀y∈l,iZ y)→∀y∈jh acc l,iZ y
 | [],acc,h,_=>h
 | x::l,acc,h,hl=>pg l _ (Df h (hl x (zV ..))) (fun y hy=>hl y (zT _ hy))
theorem nB:∀(l acc:List Xt),(jh acc l).length≤acc.length+l.length
 | [],acc=>Nat.le_refl _
 | x::l,acc=>by
  have:=nB l (mb acc x)
  have:=AP acc x
  show (jh (mb acc x) l).length≤_
  simp;omega
end Go.oX
namespace Go.Proofs.YtfffmmahegdfiaaGreat
open Go.Bm Go.oX
theorem HS {α:Type} {x y r:Option α} (k:y=r) (h:x=y:=by (first | with_reducible exact (gE _ _) | with_reducible exact cC | with_reducible exact dE | with_reducible exact dF | with_reducible exact (Jd (by assumption)) | with_reducible exact (Jc (by assumption)) | with_reducible exact (Zx (by assumption)) | with_reducible exact (Zy (by assumption)) | with_reducible exact de | with_reducible exact cS | with_reducible exact gK | with_reducible exact gG | with_reducible exact gH | with_reducible exact gI | with_reducible exact gL | with_reducible exact gJ | with_reducible exact dH | with_reducible exact LP | (with_reducible apply xV;with_reducible (first | exact aL _ _ _ | assumption | exact cl (by assumption) | exact cl (cl (by assumption)) | exact cl (cl (cl (by assumption))) | exact cl (cl (cl (cl (by assumption)))) | exact cl (cl (cl (cl (cl (by assumption))))))) | (with_reducible refine dI ?qh;case qh=>first | omega | (simp (disch:=omega) only [aU,bS,dc,fS,gy,cO,dZ,fL,aI,je,dg,aK,aw,zE,List.length_nil,zO,zR,zH,nu,nJ,lj,xi,iP,zM]<;>omega)) | (with_reducible refine dk ?qh;case qh=>first | omega | (simp (disch:=omega) only [aU,bS,dc,fS,gy,cO,dZ,fL,aI,je,dg,aK,aw,zE,List.length_nil,zO,zR,zH,nu,nJ,lj,xi,iP,zM]<;>omega)) | (with_reducible refine dJ ?qh;case qh=>first | omega | (simp (disch:=omega) only [aU,bS,dc,fS,gy,cO,dZ,fL,aI,je,dg,aK,aw,zE,List.length_nil,zO,zR,zH,nu,nJ,lj,xi,iP,zM]<;>omega)) | (with_reducible refine dK ?qh;case qh=>first | omega | (simp (disch:=omega) only [aU,bS,dc,fS,gy,cO,dZ,fL,aI,je,dg,aK,aw,zE,List.length_nil,zO,zR,zH,nu,nJ,lj,xi,iP,zM]<;>omega)) | (with_reducible refine bj ?qh;case qh=>first | omega | (simp (disch:=omega) only [aU,bS,dc,fS,gy,cO,dZ,fL,aI,je,dg,aK,aw,zE,List.length_nil,zO,zR,zH,nu,nJ,lj,xi,iP,zM]<;>omega)) | (with_reducible refine bl ?qh;case qh=>first | omega | (simp (disch:=omega) only [aU,bS,dc,fS,gy,cO,dZ,fL,aI,je,dg,aK,aw,zE,List.length_nil,zO,zR,zH,nu,nJ,lj,xi,iP,zM]<;>omega)))):x=r:=h.trans k
def m4 (r2:T3) (r4:T4) (gr:Nat) (fr en:Int) (l:List Xt):Prop:=∃fo:Option Nat,r2[gr]?=some (fr,(en,fo))∧((fo=none∧l=[])∨∃j,fo=some j∧aT r4 j=some l)
theorem o6 {α:Type} {l:List α} {i:Nat} {y x:α} (h:l[i]?=some y):(aS l i x)[i]?=some x:=by
 unfold aS
 rw [List.getElem?_set,if_pos rfl,if_pos (zB.1 h).1]
theorem nK (d1:T4) (n:Int) (l:List Xt) (j:Nat) (v2) (hj:aT d1 j=some l) (hl:l.length≤10000) :
  loop (g.bX n d1 l j v2) ((0,()),((),((),((),()))))=v2 (((match lP l n with | some i=>(i:Int) | none=>-1),()),((),((),((),())))):=by
 refine (lu (fun k=>((((k:Nat):Int),()),((),((),((),()))))) (fun k=>v2 (((match lP (l.drop k) n with | some i=>((k+i:Nat):Int) | none=>-1),()),((),((),((),()))))) l.length (by unfold lQ;omega) (fun K=>?_) (fun k hk=>?_)).trans ?_
 ·simp (disch:=omega) only [g.bX,↓gK,↓gG,↓gH,↓gI,↓gL,↓gJ,zE,dI,dk,dJ,dK,bj,bl,dH,de,cS,cC,dE,dF,↓gE,aU,bS,dc,fS,gy,cO,dZ,fL,aI,je,dg,aK,aw]
  rw [List.drop_of_length_le (by omega)]
  rfl
 ·rw [xU l n k hk]
  have e:nth (0,0) l k=l[k]:=fy hk
  by_cases he:n≤l[k].2
  ·refine .inl (fun K=>?_)
   simp (disch:=omega) only [g.bX,↓gK,↓gG,↓gH,↓gI,↓gL,↓gJ,zE,dI,dk,dJ,dK,bj,bl,dH,de,cS,cC,dE,dF,↓gE,aU,bS,dc,fS,gy,cO,dZ,fL,aI,je,dg,aK,aw,hj,e]
   rw [if_pos he];rfl
  ·refine .inr ⟨?_,fun K=>?_⟩
   ·rw [if_neg he]
    cases lP (l.drop (k+1)) n with
    | none=>rfl
    | some i=>simp only [Option.map_some];congr 3;omega
   ·simp (disch:=omega) only [g.bX,↓gK,↓gG,↓gH,↓gI,↓gL,↓gJ,zE,dI,dk,dJ,dK,bj,bl,dH,de,cS,cC,dE,dF,↓gE,aU,bS,dc,fS,gy,cO,dZ,fL,aI,je,dg,aK,aw,hj,e]
    rfl
 ·simp
theorem ya {r2:T3} {r4:T4} {gr:Nat} {fr en:Int} {l:List Xt} (h:m4 r2 r4 gr fr en l) {n:Int} (hn:1≤n∧n≤65536∧n%8=0) (hl:l.length≤10000) (hb:lP l n=none) :
  g.bP gr n r2 r4=some ((0,(false,())),(r2,(r4,()))):=by
 obtain ⟨fo,h2,h4⟩:=h
 have e2:∀d,nth d r2 gr=(fr,(en,fo)):=fun d=>bR h2
 have hr:bO n 8=0:=by rw [cO (by omega)];exact hn.2.2
 unfold g.bP
 rcases h4 with ⟨rfl,rfl⟩ | ⟨j,rfl,hj⟩
 ·rw [e2,hr]
  repeat refine HS ?_
  rw [Jk]
  unfold g.d_
  repeat refine HS ?_
  rfl
 ·rw [e2,hr]
  repeat refine HS ?_
  refine Eq.trans (nK r4 n l j _ hj hl) ?_
  rw [hb]
  repeat refine HS ?_
  rfl
theorem x_ {r2:T3} {r4:T4} {gr:Nat} {fr en:Int} {l:List Xt} (h:m4 r2 r4 gr fr en l) {n:Int} (hn:1≤n∧n≤65536∧n%8=0) (hx:∀x∈l,iZ x) (hl:l.length≤10000) {i:Nat} (hb:lP l n=some i) :
  ∃pR pQ,g.bP gr n r2 r4=some (((l.getD i (0,0)).1,(true,())),(pR,(pQ,())))∧m4 pR pQ gr fr en (if (l.getD i (0,0)).2=n then l.eraseIdx i else l.set i ((l.getD i (0,0)).1+n,(l.getD i (0,0)).2-n)):=by
 obtain ⟨fo,h2,h4⟩:=h
 have e2:∀d,nth d r2 gr=(fr,(en,fo)):=fun d=>bR h2
 have hr:bO n 8=0:=by rw [cO (by omega)];exact hn.2.2
 obtain ⟨hi,aet⟩:=rF hb
 have QO:iZ (l.getD i (0,0)):=by rw [zA,zD hi];exact hx _ (List.getElem_mem hi)
 generalize hg:l.getD i (0,0)=x at *
 have e0:nth (0,0) l i=x:=hg
 obtain ⟨k1,k2,k3⟩:=QO
 rcases h4 with ⟨rfl,rfl⟩ | ⟨j,rfl,hj⟩
 ·cases hi
 ·unfold g.bP
  rw [e2,hr]
  have nni:nN (i:Int)=i:=rfl
  have eU:aj (0,0) (aj (0,0) l i fun Cq=>(ae IntKind.i64 (nth (0,0) l i).1 n,Cq.2)) i (fun FK=>(FK.1,aE IntKind.i64 (nth (0,0) l i).2 n))=l.set i (x.1+n,x.2-n):=by
   unfold aj
   rw [vC hi,e0,aU (by omega),bS (by omega)]
   simp only [aS,List.set_set]
  have e1:nth (0,0) (l.set i (x.1+n,x.2-n)) i=(x.1+n,x.2-n):=vC hi
  have sl:(l.set i (x.1+n,x.2-n)).length=l.length:=zM
  by_cases hz:x.2=n
  ·refine ⟨?r2,?r4,?eq,?rel⟩
   case eq=>
    repeat refine HS ?_
    refine Eq.trans (nK r4 n l j _ hj hl) ?_
    rw [hb]
    simp only [nni,e0]
    repeat refine HS ?_
    rw [eU]
    rw [e1,bj (show (x.1+n,x.2-n).2=0 by simp only;omega)]
    repeat refine HS ?_
    rw [e0]
   case rel=>
    refine ⟨some _,(o6 h2).trans (by rw [e2]),.inr ⟨_,rfl,?_⟩⟩
    have ti:((i:Int)+1).toNat=i+1:=by omega
    simp (disch:=omega) only [aU,bS,dc,fS,gy,cO,dZ,fL,aI,je,dg,aK,aw,zE,List.length_nil,zO,zR,zH,nu,nJ,lj,xi,iP,zM,sl,ti,Nat.sub_zero,Nat.min_self,Nat.zero_add]
    rw [yk,if_pos (by simp [aS]),if_pos hz]
    rw [Ef (by rw [sl];exact hi) (by rw [sl]) rfl rfl,List.eraseIdx_set_eq]
  ·refine ⟨?s2,?s4,?eq2,?rel2⟩
   case eq2=>
    repeat refine HS ?_
    refine Eq.trans (nK r4 n l j _ hj hl) ?_
    rw [hb]
    simp only [nni,e0]
    repeat refine HS ?_
    rw [eU]
    rw [e1,bl (show ¬(x.1+n,x.2-n).2=0 by simp only;omega)]
    repeat refine HS ?_
    rw [e0]
   case rel2=>
    refine ⟨some j,h2,.inr ⟨j,rfl,?_⟩⟩
    rw [if_neg hz]
    exact cl (cl hj)
open Go.Bm Go.oX
def eJ (a0:Nat) (all:List Xt) (k:(((Int×Unit)×(Unit×(Unit×(Unit×(T3×(T4×Unit))))))→(Option ((Int×Unit)×(T3×(T4×Unit)))))) (s:((Int×Unit)×(Unit×(Unit×(Unit×(T3×(T4×Unit))))))):(Option ((Int×Unit)×(T3×(T4×Unit)))):=(br (aY s.1.1 (zN (len all))) (gd (bn s.1.1) (gd (bp (nN s.1.1) (len all)) (opt (nth (0,(0,none)) s.2.2.2.2.1 a0).2.2 (jn (fun (k0:((Bool×Unit)×(Unit×(Unit×(Unit×Unit))))→_)=>(k0 ((false,()),((),((),((),())))))) (fun (s1:((Bool×Unit)×(Unit×(Unit×(Unit×Unit)))))=>(br s1.1.1 (opt (nth (0,(0,none)) s.2.2.2.2.1 a0).2.2 none (fun p2=>(bd (aT s.2.2.2.2.2.1 p2) (fun p3=>(gd (bn (-1)) (gd (bp 0 (len p3)) (bd (aT s.2.2.2.2.2.1 p2) (fun p4=>(bd (aT s.2.2.2.2.2.1 p2) (fun p5=>(gd (bn (-1)) (gd (bp 0 (len p5)) (bd (aT s.2.2.2.2.2.1 p2) (fun p6=>(k (((ae IntKind.i64 s.1.1 1),()),((),((),((),(s.2.2.2.2.1,((aS s.2.2.2.2.2.1 p2 (some (aj (0,0) p6 0 (fun r7=>(r7.1,(ae IntKind.i64 (nth (0,0) p4 0).2 (nth (0,0) all (nN s.1.1)).2)))))),()))))))))))))))))))))) (opt (nth (0,(0,none)) s.2.2.2.2.1 a0).2.2 (gd (bz (len [((nth (0,0) all (nN s.1.1)).1,(nth (0,0) all (nN s.1.1)).2)]) 16777216) (k (((ae IntKind.i64 s.1.1 1),()),((),((),((),((aj (0,(0,none)) s.2.2.2.2.1 a0 (fun r8=>(r8.1,(r8.2.1,(some (len s.2.2.2.2.2.1)))))),((cat s.2.2.2.2.2.1 [(some [((nth (0,0) all (nN s.1.1)).1,(nth (0,0) all (nN s.1.1)).2)])]),())))))))) (fun p9=>(bd (aT s.2.2.2.2.2.1 p9) (fun gB=>(gd (bz (aK (len gB) (len [((nth (0,0) all (nN s.1.1)).1,(nth (0,0) all (nN s.1.1)).2)])) 16777216) (gd (bp p9 (len s.2.2.2.2.2.1)) (k (((ae IntKind.i64 s.1.1 1),()),((),((),((),((aj (0,(0,none)) s.2.2.2.2.1 a0 (fun m8=>(m8.1,(m8.2.1,(some (len (aS s.2.2.2.2.2.1 p9 none))))))),((cat (aS s.2.2.2.2.2.1 p9 none) [(some (cat gB [((nth (0,0) all (nN s.1.1)).1,(nth (0,0) all (nN s.1.1)).2)]))]),())))))))))))))))) (fun cu=>(bd (aT s.2.2.2.2.2.1 cu) (fun cw=>(jn (fun (qi:((Bool×Unit)×(Unit×(Unit×(Unit×Unit))))→_)=>(br (dn 0 (aE IntKind.i64 (zN (len cw)) 1)) (opt (nth (0,(0,none)) s.2.2.2.2.1 a0).2.2 none (fun dM=>(bd (aT s.2.2.2.2.2.1 dM) (fun fb=>(gd (bn (aE IntKind.i64 (zN (len cw)) 1)) (gd (bp (nN (aE IntKind.i64 (zN (len cw)) 1)) (len fb)) (bd (aT s.2.2.2.2.2.1 dM) (fun gx=>(opt (nth (0,(0,none)) s.2.2.2.2.1 a0).2.2 none (fun fI=>(bd (aT s.2.2.2.2.2.1 fI) (fun kQ=>(gd (bn (aE IntKind.i64 (zN (len cw)) 1)) (gd (bp (nN (aE IntKind.i64 (zN (len cw)) 1)) (len kQ)) (bd (aT s.2.2.2.2.2.1 fI) (fun dW=>(qi (((af (ae IntKind.i64 (nth (0,0) gx (nN (aE IntKind.i64 (zN (len cw)) 1))).1 (nth (0,0) dW (nN (aE IntKind.i64 (zN (len cw)) 1))).2) (nth (0,0) all (nN s.1.1)).1),()),((),((),((),()))))))))))))))))))))) (qi ((false,()),((),((),((),()))))))) (fun (Bz:((Bool×Unit)×(Unit×(Unit×(Unit×Unit)))))=>(br Bz.1.1 (opt (nth (0,(0,none)) s.2.2.2.2.1 a0).2.2 none (fun iR=>(bd (aT s.2.2.2.2.2.1 iR) (fun fq=>(gd (bn (aE IntKind.i64 (zN (len cw)) 1)) (gd (bp (nN (aE IntKind.i64 (zN (len cw)) 1)) (len fq)) (bd (aT s.2.2.2.2.2.1 iR) (fun ju=>(bd (aT s.2.2.2.2.2.1 iR) (fun fg=>(gd (bn (aE IntKind.i64 (zN (len cw)) 1)) (gd (bp (nN (aE IntKind.i64 (zN (len cw)) 1)) (len fg)) (bd (aT s.2.2.2.2.2.1 iR) (fun eK=>(k (((ae IntKind.i64 s.1.1 1),()),((),((),((),(s.2.2.2.2.1,((aS s.2.2.2.2.2.1 iR (some (aj (0,0) eK (nN (aE IntKind.i64 (zN (len cw)) 1)) (fun cg=>(cg.1,(ae IntKind.i64 (nth (0,0) ju (nN (aE IntKind.i64 (zN (len cw)) 1))).2 (nth (0,0) all (nN s.1.1)).2)))))),()))))))))))))))))))))) (opt (nth (0,(0,none)) s.2.2.2.2.1 a0).2.2 (gd (bz (len [((nth (0,0) all (nN s.1.1)).1,(nth (0,0) all (nN s.1.1)).2)]) 16777216) (k (((ae IntKind.i64 s.1.1 1),()),((),((),((),((aj (0,(0,none)) s.2.2.2.2.1 a0 (fun m8=>(m8.1,(m8.2.1,(some (len s.2.2.2.2.2.1)))))),((cat s.2.2.2.2.2.1 [(some [((nth (0,0) all (nN s.1.1)).1,(nth (0,0) all (nN s.1.1)).2)])]),())))))))) (fun lZ=>(bd (aT s.2.2.2.2.2.1 lZ) (fun jm=>(gd (bz (aK (len jm) (len [((nth (0,0) all (nN s.1.1)).1,(nth (0,0) all (nN s.1.1)).2)])) 16777216) (gd (bp lZ (len s.2.2.2.2.2.1)) (k (((ae IntKind.i64 s.1.1 1),()),((),((),((),((aj (0,(0,none)) s.2.2.2.2.1 a0 (fun rM=>(rM.1,(rM.2.1,(some (len (aS s.2.2.2.2.2.1 lZ none))))))),((cat (aS s.2.2.2.2.2.1 lZ none) [(some (cat jm [((nth (0,0) all (nN s.1.1)).1,(nth (0,0) all (nN s.1.1)).2)]))]),())))))))))))))))))))))) (some ((0,()),(s.2.2.2.2.1,(s.2.2.2.2.2.1,())))))
theorem yX (a0:Nat) (a1 a2:Int) (v0 v1 v2 v3):g.iB a0 a1 a2 v0 v1 v2 v3=eJ a0 (cat (cat (tk (aw (nN v0.1.1) 0) (dr 0 v1)) [(a1,a2)]) (tk (aw (len v2) (nN v0.1.1)) (dr (nN v0.1.1) v3))):=rfl
theorem yW (a0:Nat) (a1 a2:Int) (v0 v1 v2):g.gp a0 a1 a2 v0 v1 v2=eJ a0 (cat [(a1,a2)] (tk (aw (len v0) (nN v1.1.1)) (dr (nN v1.1.1) v2))):=rfl
theorem G3 (a0:Nat) (a1 a2:Int):g.gm a0 a1 a2=eJ a0 (cat [(a1,a2)] []):=rfl
theorem xj (init:List Xt) (y x:Xt):mb (init++[y]) x=if y.1+y.2=x.1 then init++[(y.1,y.2+x.2)] else init++[y]++[x]:=by
 unfold mb;simp
theorem CT {α:Type} {d y:α} {l:List α} {i:Nat} (h:i=l.length):nth d (l++[y]) i=y:=by subst h;exact vD
theorem BR {α:Type} {x y:α} {l:List α} {i:Nat} (h:i=l.length):aS (l++[y]) i x=l++[x]:=by subst h;unfold aS;simp
theorem sh {r2:T3} {r4:T4} {gr:Nat} {fr en:Int} {acc all:List Xt} {k:Nat} (h:m4 r2 r4 gr fr en acc) (hk:k<all.length) (hl:all.length≤10001) (ha:acc.length≤k) (hx:iZ all[k]) (xp:∀y∈acc,iZ y) :
  ∃pR pQ,m4 pR pQ gr fr en (mb acc all[k])∧∀K,eJ gr all K (((k:Int),()),((),((),((),(r2,(r4,()))))))=K ((((k+1:Nat):Int),()),((),((),((),(pR,(pQ,())))))):=by
 obtain ⟨fo,h2,h4⟩:=h
 have e2:∀d,nth d r2 gr=(fr,(en,fo)):=fun d=>bR h2
 have e:∀d,nth d all (nN (k:Int))=all[k]:=fun d=>fy hk
 have ek:ae IntKind.i64 (k:Int) 1=((k+1:Nat):Int):=by rw [aU (by omega)];omega
 rcases h4 with ⟨rfl,rfl⟩ | ⟨j,rfl,hj⟩
 ·refine ⟨?r2,?r4,?rel,fun K=>?eq⟩
  case eq=>
   unfold eJ
   simp only [e2,e,ek]
   repeat refine HS ?_
   rfl
  case rel=>
   refine ⟨some r4.length,o6 h2 |>.trans (by rw [e2];rfl),.inr ⟨_,rfl,?_⟩⟩
   exact gz
 ·have hjl:=o9 hj
  rcases List.eq_nil_or_concat acc with rfl | ⟨init,y,rfl⟩
  ·refine ⟨?s2,?s4,?rel2,fun K=>?eq2⟩
   case eq2=>
    unfold eJ
    simp only [e2,e,ek]
    repeat refine HS ?_
    rfl
   case rel2=>
    refine ⟨some (len (aS r4 j none)),o6 h2 |>.trans (by rw [e2]),.inr ⟨_,rfl,?_⟩⟩
    exact gz
  ·simp only [List.concat_eq_append] at *
   have hle:(init++[y]).length=init.length+1:=by simp
   have il:aE IntKind.i64 (zN (len (init++[y]))) 1=(init.length:Int):=by
    rw [fL,aI,hle,bS (by omega)];omega
   have hy:=xp y (by simp)
   have ey:∀d,nth d (init++[y]) (nN (init.length:Int))=y:=fun d=>CT (je _)
   have ea:ae IntKind.i64 y.1 y.2=y.1+y.2:=aU (by unfold iZ at hy;omega)
   have eb:ae IntKind.i64 y.2 all[k].2=y.2+all[k].2:=aU (by unfold iZ at hy hx;omega)
   rw [xj]
   by_cases hq:y.1+y.2=all[k].1
   ·rw [if_pos hq]
    refine ⟨?u2,?u4,?rel3,fun K=>?eq3⟩
    case eq3=>
     unfold eJ
     simp only [e2,e,ek]
     iterate 12 (try (refine HS ?_))
     simp only [il]
     repeat refine HS ?_
     simp only [ey,ea,eb]
     repeat refine HS ?_
     rfl
    case rel3=>
     refine ⟨some j,h2,.inr ⟨j,rfl,(cl hj).trans ?_⟩⟩
     unfold aj
     rw [ey,BR (je _)]
     show some (init++[(y.1,ae IntKind.i64 y.2 all[k].2)])=_
     rw [eb]
   ·rw [if_neg hq]
    refine ⟨?v2,?v4,?rel4,fun K=>?eq4⟩
    case eq4=>
     unfold eJ
     simp only [e2,e,ek]
     iterate 12 (try (refine HS ?_))
     simp only [il]
     repeat refine HS ?_
     simp only [ey,ea,eb]
     repeat refine HS ?_
     rfl
    case rel4=>
     refine ⟨some (len (aS r4 j none)),o6 h2 |>.trans (by rw [e2]),.inr ⟨_,rfl,?_⟩⟩
     exact gz
theorem vY {gr:Nat} {fr en:Int} {all:List Xt} (hl:all.length≤10001) (hx:∀y∈all,iZ y):∀(m k:Nat) (r2:T3) (r4:T4),k+m=all.length→m4 r2 r4 gr fr en (jh [] (all.take k)) →
  ∃pR pQ,m4 pR pQ gr fr en (jh [] all)∧BJ (eJ gr all) (((k:Int),()),((),((),((),(r2,(r4,())))))) (some ((0,()),(pR,(pQ,())))) m
 | 0,k,r2,r4,hk,h=>by
  obtain rfl:k=all.length:=by omega
  rw [List.take_length] at h
  refine ⟨r2,r4,h,BJ.stop 0 fun K=>?_⟩
  unfold eJ
  repeat refine HS ?_
  rfl
 | m+1,k,r2,r4,hk,h=>by
  have wO:k<all.length:=by omega
  have ho:∀y∈jh [] (all.take k),iZ y:=pg _ _ (by simp) (fun y hy=>hx y (List.mem_of_mem_take hy))
  have hn:(jh [] (all.take k)).length≤k:=by have:=nB (all.take k) [];simp at this;omega
  obtain ⟨pR,pQ,h',e⟩:=sh h wO hl hn (hx _ (List.getElem_mem wO)) ho
  rw [←vJ all k wO] at h'
  obtain ⟨VY,VX,h'',r⟩:=vY hl hx m (k+1) pR pQ (by omega) h'
  exact ⟨VY,VX,h'',BJ.step r e⟩
theorem xA {gr:Nat} {fr en:Int} {all:List Xt} {r2:T3} {r4:T4} (h:m4 r2 r4 gr fr en []) (hl:all.length≤10001) (hx:∀y∈all,iZ y) :
  ∃pR pQ,m4 pR pQ gr fr en (jh [] all)∧loop (eJ gr all) ((0,()),((),((),((),(r2,(r4,()))))))=some ((0,()),(pR,(pQ,()))):=by
 obtain ⟨pR,pQ,h',r⟩:=vY hl hx all.length 0 r2 r4 (by omega) h
 exact ⟨pR,pQ,h',r.loop (by unfold lQ;omega)⟩
theorem sQ (a1:Int) (d1:T4) (l:List Xt) (j:Nat) (v2) (hj:aT d1 j=some l) (hl:l.length≤10000) (hx:∀x∈l,iZ x) :
  loop (g.di a1 d1 l j v2) ((0,()),((),((),((),()))))=v2 (((if behind l a1<l.length then (behind l a1:Int) else -1),()),((),((),((),())))):=by
 refine (lu (fun k=>((((k:Nat):Int),()),((),((),((),()))))) (fun k=>v2 (((if k+behind (l.drop k) a1<l.length then ((k+behind (l.drop k) a1:Nat):Int) else -1),()),((),((),((),()))))) l.length (by unfold lQ;omega) (fun K=>?_) (fun k hk=>?_)).trans ?_
 ·simp (disch:=omega) only [g.di,↓gK,↓gG,↓gH,↓gI,↓gL,↓gJ,zE,dI,dk,dJ,dK,bj,bl,dH,de,cS,cC,dE,dF,↓gE,aU,bS,dc,fS,gy,cO,dZ,fL,aI,je,dg,aK,aw]
  rw [if_neg (by omega)]
 ·rw [wB l a1 k hk]
  have e:nth (0,0) l k=l[k]:=fy hk
  have nQ:=hx _ (List.getElem_mem hk)
  unfold iZ at nQ
  by_cases he:a1<l[k].1+l[k].2
  ·refine .inl (fun K=>?_)
   simp (disch:=omega) only [g.di,↓gK,↓gG,↓gH,↓gI,↓gL,↓gJ,zE,dI,dk,dJ,dK,bj,bl,dH,de,cS,cC,dE,dF,↓gE,aU,bS,dc,fS,gy,cO,dZ,fL,aI,je,dg,aK,aw,hj,e]
   rw [if_pos he,if_pos (by omega)];rfl
  ·refine .inr ⟨?_,fun K=>?_⟩
   ·rw [if_neg he]
    have e3:k+(behind (l.drop (k+1)) a1+1)=k+1+behind (l.drop (k+1)) a1:=by omega
    rw [e3]
   ·simp (disch:=omega) only [g.di,↓gK,↓gG,↓gH,↓gI,↓gL,↓gJ,zE,dI,dk,dJ,dK,bj,bl,dH,de,cS,cC,dE,dF,↓gE,aU,bS,dc,fS,gy,cO,dZ,fL,aI,je,dg,aK,aw,hj,e]
    rfl
 ·simp
theorem m4.nil {r2:T3} {r4:T4} {gr:Nat} {fr en:Int} {l:List Xt} (h:m4 r2 r4 gr fr en l):m4 (aj (0,(0,none)) r2 gr (fun r=>(r.1,(r.2.1,none)))) r4 gr fr en []:=by
 obtain ⟨fo,h2,_⟩:=h
 have e2:∀d,nth d r2 gr=(fr,(en,fo)):=fun d=>bR h2
 exact ⟨none,o6 h2 |>.trans (by rw [e2]),.inl ⟨rfl,rfl⟩⟩
theorem L8 {r2:T3} {r4:T4} {gr:Nat} {fr en:Int} {l l':List Xt} {a n:Int} (h:m4 r2 r4 gr fr en l) (hf:0≤fr∧0≤en∧en≤131072) (ha:0≤a∧a≤1048576) (hn:0≤n∧n≤1048576) (hx:∀x∈l,iZ x) (hl:l.length≤10000) (hg:DS fr en l a n=some l') :
  ∃pR pQ,g.cP gr a n r2 r4=some ((0,()),(pR,(pQ,())))∧m4 pR pQ gr fr en l':=by
 have sc:=h.nil
 obtain ⟨fo,h2,h4⟩:=h
 have e2:∀d,nth d r2 gr=(fr,(en,fo)):=fun d=>bR h2
 unfold DS at hg
 split at hg
 ·cases hg
 rename_i hc
 split at hg
 ·cases hg
 rename_i hd
 cases hg
 have Mq:1≤n:=by omega
 have Xg:n%8=0:=by omega
 have hc3:a%8=0:=by omega
 have Ra:fr≤a∧a≤en-1:=by omega
 have hc5:n≤en-a:=by omega
 have hw:within a fr (aE IntKind.i64 en 1)=true:=by
  rw [bS (by omega)];simp [within,Ra.1,Ra.2]
 have iF:∀y∈l.take (behind l a)++[(a,n)]++l.drop (behind l a),iZ y:=by
  intro y hy
  simp only [zX,zF] at hy
  rcases hy with (hy | rfl) | hy
  ·exact hx _ (List.mem_of_mem_take hy)
  ·unfold iZ;simp only;omega
  ·exact hx _ (List.mem_of_mem_drop hy)
 have hlen:(l.take (behind l a)++[(a,n)]++l.drop (behind l a)).length≤10001:=by
  have:=la l a
  simp;omega
 obtain ⟨pR,pQ,hr,vU⟩:=xA sc hlen iF
 refine ⟨pR,pQ,?_,hr⟩
 unfold g.cP
 rcases h4 with ⟨rfl,rfl⟩ | ⟨j,rfl,hj⟩
 ·simp only [e2]
  repeat refine HS ?_
  try rw [hw]
  repeat refine HS ?_
  rw [Jk]
  unfold g.iA
  repeat refine HS ?_
  rw [G3]
  exact vU
 ·have hb:=la l a
  simp only [e2]
  repeat refine HS ?_
  try rw [hw]
  repeat refine HS ?_
  refine Eq.trans (sQ a r4 l j _ hj hl hx) ?_
  generalize hi:behind l a=i at *
  have a0:cat (cat (tk (aw (nN (i:Int)) 0) (dr 0 l)) [(a,n)]) (tk (aw (len l) (nN (i:Int))) (dr (nN (i:Int)) l))=l.take i++[(a,n)]++l.drop i:=by
   unfold cat tk dr aw len nN
   rw [zE,Nat.sub_zero,List.drop_zero,za (l:=l.drop i) (by simp)]
  have a2:i=0→cat [(a,n)] (tk (aw (len l) (nN (i:Int))) (dr (nN (i:Int)) l))=l.take i++[(a,n)]++l.drop i:=by
   rintro rfl
   unfold cat tk dr aw len nN
   simp
  have k0:(fun r:Int×(Int×Option Nat)=>(r.1,(r.2.1,(none:Option Nat))))=(fun r=>(r.1,(r.2.1,none))):=rfl
  have hs:ae IntKind.i64 a n=a+n:=aU (by omega)
  by_cases dD:i<l.length
  ·rw [if_pos dD]
   have e:∀d,nth d l (nN (i:Int))=l[i]:=fun d=>fy dD
   have mZ:¬l[i].1<a+n:=by
    intro hh
    refine hd ⟨dD,?_⟩
    rw [zA,zD dD]
    exact hh
   by_cases h0:i=0
   ·repeat refine HS ?_
    rw [e,hs]
    repeat refine HS ?_
    rw [yW]
    exact (congrArg (fun al=>loop (eJ gr al) _) (a2 h0)).trans vU
   ·repeat refine HS ?_
    rw [e,hs]
    repeat refine HS ?_
    rw [yX]
    exact (congrArg (fun al=>loop (eJ gr al) _) a0).trans vU
  ·rw [if_neg dD]
   obtain rfl:i=l.length:=by omega
   by_cases h0:l.length=0
   ·repeat refine HS ?_
    rw [yW]
    exact (congrArg (fun al=>loop (eJ gr al) _) (a2 h0)).trans vU
   ·repeat refine HS ?_
    rw [yX]
    exact (congrArg (fun al=>loop (eJ gr al) _) a0).trans vU
open Go.Bm Go.oX
def GI (n:Nat) (d3:T3) (d4:T4) (gr:Nat):Prop:=∃fr en l,m4 d3 d4 gr fr en l∧(0≤fr∧0≤en∧en≤131072)∧(∀x∈l,iZ x)∧l.length≤n+1
theorem GI.up {n:Nat} {d3:T3} {d4:T4} {gr:Nat} (h:GI n d3 d4 gr):GI (n+1) d3 d4 gr:=by
 obtain ⟨fr,en,l,h1,h2,h3,h4⟩:=h
 exact ⟨fr,en,l,h1,h2,h3,by omega⟩
theorem yI {n:Int} (h:0≤n):bO n 8=n%8:=cO h
theorem HH {n:Nat} {d3:T3} {d4:T4} {gr:Nat} (h:GI n d3 d4 gr) (hn:n≤9000) (a s:Int) (ha : -9223372036854775808≤a∧a≤9223372036854775807):Ok (g.cP gr a s d3 d4) (fun r=>GI (n+1) r.2.1 r.2.2.1 gr):=by
 have same:=h.up
 obtain ⟨fr,en,l,h1,h2,h3,h4⟩:=h
 cases hg:DS fr en l a s with
 | some l'=>
  have Mo:=hg
  unfold DS at hg
  split at hg
  ·cases hg
  rename_i hc
  split at hg
  ·cases hg
  cases hg
  obtain ⟨pR,pQ,he,hr⟩:=L8 h1 h2 (by omega) (by omega) h3 (by omega) Mo
  refine ⟨_,he,fr,en,_,hr,h2,pg _ _ (fun y hy=>nomatch hy) ?_,?_⟩
  ·intro y hy
   simp only [zX,zF] at hy
   rcases hy with (hy | rfl) | hy
   ·exact h3 _ (List.mem_of_mem_take hy)
   ·unfold iZ;simp only;omega
   ·exact h3 _ (List.mem_of_mem_drop hy)
  ·have:=nB (l.take (behind l a)++[(a,s)]++l.drop (behind l a)) []
   have:=la l a
   simp only [zY,List.length_take,List.length_drop,zO,List.length_nil] at *
   omega
 | none=>
  unfold DS at hg
  split at hg
  ·rename_i hc
   obtain ⟨fo,k1,k2⟩:=h1
   have e2:∀d,nth d d3 gr=(fr,(en,fo)):=fun d=>bR k1
   unfold g.cP
   simp only [e2]
   refine .jn (.br (fun _=>.some same) fun b1=>.br (fun _=>.some same) fun b2=>.br (fun _=>.some same) fun b3=>.gP (aL _ _ _) (.br (fun _=>.some same) fun b4=>.br (fun _=>.some same) fun b5=>?_))
   exfalso
   have b1:=gD.1 b1
   have b2:=bo.1 (eI.1 b2)
   have b3:=bo.1 (eI.1 b3)
   have b4:=fm.1 (eI.1 b4)
   have b5:=gD.1 b5
   rw [bS (by omega)] at b4 b5
   rw [yI (by omega)] at b2 b3
   omega
  ·rename_i hc
   split at hg
   ·rename_i hd
    have Mq:1≤s:=by omega
    have Xg:s%8=0:=by omega
    have hc3:a%8=0:=by omega
    have Ra:fr≤a∧a≤en-1:=by omega
    have hc5:s≤en-a:=by omega
    have hw:within a fr (aE IntKind.i64 en 1)=true:=by
     rw [bS (by omega)];simp [within,Ra.1,Ra.2]
    have KU:bO s 8=0:=by rw [yI (by omega)];exact Xg
    have WH:bO a 8=0:=by rw [yI (by omega)];exact hc3
    obtain ⟨fo,k1,k2⟩:=h1
    have e2:∀d,nth d d3 gr=(fr,(en,fo)):=fun d=>bR k1
    refine ⟨((1,()),(d3,(d4,()))),?_,same⟩
    rcases k2 with ⟨rfl,rfl⟩ | ⟨j,rfl,hj⟩
    ·exact absurd hd.1 (by simp)
    ·unfold g.cP
     have hs:ae IntKind.i64 a s=a+s:=aU (by omega)
     simp only [e2,KU,WH]
     repeat refine HS ?_
     try rw [hw]
     repeat refine HS ?_
     refine Eq.trans (sQ a d4 l j _ hj (by omega) h3) ?_
     obtain ⟨d1,d2⟩:=hd
     have hb:=la l a
     generalize hi:behind l a=i at *
     rw [if_pos d1]
     have e:∀d,nth d l (nN (i:Int))=l[i]:=fun d=>fy d1
     rw [zA,zD d1] at d2
     have d2:l[i].1<a+s:=d2
     repeat refine HS ?_
     rw [e,hs]
     repeat refine HS ?_
     rfl
   ·cases hg
theorem EW {n:Nat} {d3:T3} {d4:T4} {gr:Nat} (h:GI n d3 d4 gr) (hn:n≤9000) {s:Int} (hs:1≤s∧s≤65536∧s%8=0):Ok (g.bP gr s d3 d4) (fun r=>GI (n+1) r.2.1 r.2.2.1 gr):=by
 have same:=h.up
 obtain ⟨fr,en,l,h1,h2,h3,h4⟩:=h
 cases hb:lP l s with
 | none=>exact ⟨_,ya h1 hs (by omega) hb,same⟩
 | some i=>
  obtain ⟨pR,pQ,he,hr⟩:=x_ h1 hs h3 (by omega) hb
  refine ⟨_,he,fr,en,_,hr,h2,?_,?_⟩
  ·obtain ⟨k1,k2⟩:=rF hb
   intro x hx
   split at hx
   ·exact h3 _ (List.mem_of_mem_eraseIdx hx)
   ·rcases List.mem_or_eq_of_mem_set hx with hx | rfl
    ·exact h3 _ hx
    ·have:=h3 _ (List.getElem_mem k1)
     rw [zA,zD k1] at k2 ⊢
     unfold iZ at this ⊢
     simp only [Option.getD_some] at *
     omega
  ·split
   ·have:=List.length_eraseIdx_le l i;omega
   ·rw [zM];omega
abbrev L4:=((U1×(Int×Unit))×(T2×(T3×(T4×Unit))))
def StF (n:Nat) (r:U1) (c0:T1) (a j m gr:Nat) (x:L4):Prop:=SP n r x.1.1∧AR c0 x.2.1 a j m∧GI (n+1) x.2.2.1 x.2.2.2.1 gr
theorem NI (x:Int) : -9223372036854775808≤cy .i64 x∧cy .i64 x≤9223372036854775807:=by
 unfold cy;rw [wrap_i64];omega
theorem xO {n:Nat} {c0:T1} {d0:T2} {d3:T3} {d4:T4} {a j m gr:Nat} (hA:AR c0 d0 a j m) (hG:GI n d3 d4 gr) (hn:n≤9000) (p:mE) (s:Int):Ok (g.g5 (some a,(p,s)) gr c0 d0 d3 d4) (fun r=>AR c0 r.2.1 a j m∧GI (n+1) r.2.2.1 r.2.2.2.1 gr):=by
 unfold g.g5
 exact .gC rfl (.bd (cA hA _ _) fun q _=>.br (fun _=>.some ⟨hA,hG.up⟩) fun _=>.br (fun _=>.bd (dA hA _ _ _) fun q _=>.bd (dA hA _ _ _) fun q _=>.bd (HH hG hn _ _ (NI _)) fun q hq=>.bd (dL hA _ _ _) fun w hw=>.bd (bJ hw _ _ _ _) fun w hw=>.bd (bJ hw _ _ _ _) fun w hw=>.some ⟨hw,hq⟩) fun _=>.some ⟨hA,hG.up⟩)
theorem DW {n:Nat} {r:U1} (h:rI n r) (hn:n≤9000) (UA:Rn.pc r=1) (hc:Rn.op r=2→1≤r.1.2.2.2.2.1∧r.1.2.2.2.2.1≤65536) {c0:T1} {d0:T2} {d3:T3} {d4:T4} {a j m gr:Nat} (hA:AR c0 d0 a j m) (hG:GI n d3 d4 gr) (p:mE) (hp:p.1≤100):Ok (g.iG p a gr r c0 d0 d3 d4) (StF n r c0 a j m gr):=by
 unfold g.iG
 obtain ⟨h1,h2,h3,h4,h5,h6,h7,h8⟩:=h
 have hl:(Rn.list r).length≤n+1:=by omega
 have hs:(Rn.said r).length≤n+1:=by omega
 have Mj:Rn.op r=2∨Rn.op r=3:=by
  unfold dm at h8;rw [UA] at h8;omega
 have hd:∀{x y:Option L4} {P:L4→Prop},Ok y P→Ok (br (Rn.done r) x y) P:=fun {x y P} k=>by rw [h4];exact k
 have tell:∀(c k:Int) (d':T2) (Y0:T3) (YZ:T4),AR c0 d' a j m→GI (n+1) Y0 YZ gr→Ok (bd (g.bb r c k) (fun p=>some ((p.1.1,(0,())),(d',(Y0,(YZ,())))))) (StF n r c0 a j m gr):=fun c k d' Y0 YZ sf hG'=>
  .bd (jE n c k rfl rfl hl hs h7 (fun k hk=>by unfold Cp at hk;unfold lG;omega)) fun q hh=>.some ⟨hh.1,sf,hG'⟩
 refine .jn (hd (.br (fun e=>?_) fun _=>.br (fun _=>.bd (xO hA hG hn _ _) fun q hq=>tell _ _ _ _ _ hq.1 hq.2) fun n3=>?_))
 ·have e:=bh.1 (kh.1 e)
  exact absurd UA e
 ·have n3:¬Rn.op r=3:=bh.1 n3
  obtain ⟨c1,c2⟩:=hc (by omega)
  refine .loop (fun m' s=>AR c0 s.2.2.2.2.1 a j m∧s.2.2.2.2.2.1=d3∧s.2.2.2.2.2.2.1=d4∧∃k:Nat,s.1.1=(k:Int)∧k+m'=100) (fun m' s gg hI ih=>?_) (N:=100) (by unfold lQ;omega) ⟨hA,rfl,rfl,0,rfl,rfl⟩
  obtain ⟨i1,i2,i3,k,i4,i5⟩:=hI
  unfold g.iN
  refine .br (fun hb=>?_) fun _=>tell _ _ _ _ _ i1 (by rw [i2,i3];exact hG.up)
  have hb:=eh.1 hb
  refine .bd (cA i1 _ _) fun q _=>.br (fun _=>ih (m' - 1) _ (by omega) ⟨i1,i2,i3,k+1,?_,by omega⟩) fun _=>?_
  ·show ae .i64 s.1.1 1=_;rw [i4,aU (by omega)];rfl
  ·refine .gP (vB (by omega)) (.bd (EW (n:=n) (by rw [i2,i3];exact hG) hn ?_) fun q hq=>.br (fun _=>tell _ _ _ _ _ i1 hq) fun _=>.bd (dL i1 _ _ _) fun w hw=>.bd (bJ hw _ _ _ _) fun w hw=>.bd (bJ hw _ _ _ _) fun w hw=>.bd (bJ hw _ _ _ _) fun w hw=>.bd (bJ hw _ _ _ _) fun w hw=>tell _ _ _ _ _ hw hq)
   show 1≤HM r.1.2.2.2.2.1∧HM r.1.2.2.2.2.1≤65536∧HM r.1.2.2.2.2.1%8=0
   unfold HM;omega
open Go.Bm Go.oX
theorem gq {α:Type} (l:List α):zN (len l)=(l.length:Int):=by rw [fL,aI]
theorem v_ (l:List Int) (hl:l.length≤10):Ok (g.av l) (fun r=>(r.1.1=0→∀i,i<l.length→l.getD i 0=0)∧(r.1.1=0∨∃i,i<l.length∧r.1.1=l.getD i 0)):=by
 unfold g.av
 refine .loop (fun m s=>∃k:Nat,s.1.1=(k:Int)∧k+m=l.length∧∀i,i<k→l.getD i 0=0) (fun m s gg hI ih=>?_) (N:=l.length) (by unfold lQ;omega) ⟨0,rfl,by omega,fun i hi=>by omega⟩
 obtain ⟨k,h1,h2,h3⟩:=hI
 unfold g.iq
 rw [gq,h1]
 have ek:nN (k:Int)=k:=rfl
 refine .br (fun hb=>?_) fun hb=>.some ⟨fun _ i hi=>h3 i (by have:=gD.1 hb;omega),.inl rfl⟩
 have hb:=eh.1 hb
 refine .gd (by rw [bF];omega) (.gd (by rw [bZ,aI,ek];omega) (.br (fun e=>.some ⟨fun e2=>absurd e2 (bh.1 (kh.1 e)),.inr ⟨k,by omega,rfl⟩⟩) fun e=>ih (m-1) _ (by omega) ⟨k+1,?_,by omega,fun i hi=>?_⟩))
 ·show ae .i64 (k:Int) 1=_;rw [aU (by omega)];rfl
 ·by_cases h:i<k
  ·exact h3 i h
  ·have:i=k:=by omega
   subst this
   exact bo.1 (eI.1 e)
theorem A_ (a b:Int):Ok (g.av [a,b]) (fun r=>(r.1.1=0→a=0∧b=0)∧(r.1.1=0∨r.1.1=a∨r.1.1=b)):=(v_ _ (by show 2≤10;omega)).mono fun r h=>⟨fun e=>⟨h.1 e 0 (by show 0<2;omega),h.1 e 1 (by show 1<2;omega)⟩,by
 rcases h.2 with h | ⟨i,hi,h⟩
 ·exact .inl h
 ·have hi:i<2:=hi
  have:i=0∨i=1:=by omega
  rcases this with rfl | rfl
  ·exact .inr (.inl h)
  ·exact .inr (.inr h)⟩
theorem re (a b:Int):Ok (g.gF a b) (fun r=>r.1.2.1=0∨r.1.2.1=1):=⟨_,oB a b,by
 dsimp only
 unfold mO
 split
 ·exact .inr rfl
 ·exact .inl rfl⟩
theorem A9 (a b c:Int):Ok (g.av [a,b,c]) (fun r=>r.1.1=0→a=0∧b=0∧c=0):=(v_ _ (by show 3≤10;omega)).mono fun r h e=>⟨h.1 e 0 (by show 0<3;omega),h.1 e 1 (by show 1<3;omega),h.1 e 2 (by show 2<3;omega)⟩
theorem vE (l:List Int) (hl:l.length≤10):Ok (g.bM l) (fun r=>r.1.1=true→∀i,i<l.length→l.getD i 0<4):=by
 unfold g.bM
 refine .loop (fun m s=>∃k:Nat,s.1.1=(k:Int)∧k+m=l.length∧∀i,i<k→l.getD i 0<4) (fun m s gg hI ih=>?_) (N:=l.length) (by unfold lQ;omega) ⟨0,rfl,by omega,fun i hi=>by omega⟩
 obtain ⟨k,h1,h2,h3⟩:=hI
 unfold g.im
 rw [gq,h1]
 have ek:nN (k:Int)=k:=rfl
 refine .br (fun hb=>?_) fun hb=>.some fun _ i hi=>h3 i (by have:=gD.1 hb;omega)
 have hb:=eh.1 hb
 refine .gd (by rw [bF];omega) (.gd (by rw [bZ,aI,ek];omega) (.br (fun e=>.some fun e2=>?_) fun e=>ih (m-1) _ (by omega) ⟨k+1,?_,by omega,fun i hi=>?_⟩))
 ·have:dn 0 (k:Int)=false:=kh.1 e2
  have:=qW.1 this
  omega
 ·show ae .i64 (k:Int) 1=_;rw [aU (by omega)];rfl
 ·by_cases h:i<k
  ·exact h3 i h
  ·have:i=k:=by omega
   subst this
   have:=qW.1 e
   show nth 0 l i<4
   rw [ek] at this
   omega
theorem AK (a:Int):Ok (g.bM [a]) (fun r=>r.1.1=true→a<4):=(vE _ (by show 1≤10;omega)).mono fun r h e=>h e 0 (by show 0<1;omega)
theorem AJ (a b:Int):Ok (g.bM [a,b]) (fun r=>r.1.1=true→a<4∧b<4):=(vE _ (by show 2≤10;omega)).mono fun r h e=>⟨h e 0 (by show 0<2;omega),h e 1 (by show 1<2;omega)⟩
theorem wK {l:List (Int×Bool)} (hl:l.length≤100):g.bE l=some ((l,()),()):=by
 unfold g.bE
 rw [vZ (show bz (aK 0 (len l)) 16777216 by rw [dt,aI];show 0+_≤_;omega)]
 rfl
theorem EL {l:List (Int×Bool)} (hl:l.length≤100):Ok (g.hO l) (fun r=>r.1.1.length≤l.length∧(r.1.2.2.1=0→0<l.length)):=by
 unfold g.hO
 rw [gq]
 refine .br (fun hb=>.some ⟨by show 0≤_;omega,fun e=>by cases e⟩) fun hb=>?_
 have hb:=gD.1 hb
 rw [bS (by omega)] at hb ⊢
 have en:nN ((l.length:Int)-1)=l.length-1:=by unfold nN;omega
 have ht:(tk (aw (nN ((l.length:Int)-1)) 0) (dr 0 l)).length≤l.length:=by show (List.take _ (List.drop 0 l)).length≤_;rw [List.length_take,List.drop_zero];omega
 exact .gd (by rw [bF];omega) (.gd (by rw [dt];omega) (.gd (by rw [dt,en,aI];omega) (.gP (wK (by omega)) (.gd (by rw [bF];omega) (.gd (by rw [bZ,en,aI];omega) (.some ⟨ht,fun _=>by omega⟩))))))
theorem uI {l:List (Int×Bool)} (hl:l.length≤6) (e:Int×Bool):Ok (g.bT l e) (fun r=>r.1.1.length≤6):=by
 unfold g.bT
 rw [gq]
 refine .br (fun hb=>.some (by show 0≤_;omega)) fun hb=>?_
 have hb:=qW.1 hb
 rw [aU (by omega)]
 have en:nN ((l.length:Int)+1)=l.length+1:=by unfold nN;omega
 have er:(rep (α:=(Int×Bool)) (l.length+1) (0,false)).length=l.length+1:=List.length_replicate
 have ec:(cat l (dr l.length (rep (α:=(Int×Bool)) (l.length+1) (0,false)))).length=l.length+1:=by show (l++List.drop _ _).length=_;rw [zY,List.length_drop,er];omega
 rw [en]
 refine .gd (by rw [bF];omega) (.gd (by rw [dt];omega) (.gd (by rw [bZ,aI,er];omega) (.gd (by rw [dt,aI,aI,er];omega) (.gd (by rw [bF];omega) (.gd ?_ (.some ?_))))))
 ·rw [bZ];show l.length<(cat l (dr l.length (rep (α:=(Int×Bool)) (l.length+1) (0,false)))).length;omega
 ·show (List.set _ _ _).length≤6
  rw [zM]
  show (cat l (dr l.length (rep (α:=(Int×Bool)) (l.length+1) (0,false)))).length≤6
  omega
theorem HL (l:List (Int×Bool)) (hl:l.length≤100):Ok (g.cD l) (fun _=>True):=by
 unfold g.cD
 rw [gq]
 refine .br (fun _=>.some trivial) fun hb=>?_
 have hb:=bh.1 hb
 rw [bS (by omega)]
 have en:nN ((l.length:Int)-1)=l.length-1:=by unfold nN;omega
 exact .gd (by rw [bF];omega) (.gd (by rw [bZ,en,aI];omega) (.some trivial))
theorem EK {l:List (Int×Bool)} (hl:l.length≤100) (s:Int):Ok (g.bg l s) (fun _=>True):=⟨_,ni _ (by omega),trivial⟩
abbrev Ask:=mE×(List (Int×Bool)×((Int×(Int×(Int×(Int×(Int×(Int×Int))))))×(Int×Int)))
theorem Ok.brN {α:Type} {c:Bool} {x y:Option α} {P:α→Prop} {Q:Prop} (hq:c=true→Q) (h1:c=false→Ok x P) (h2:Q→Ok y P):Ok (br (ax c) x y) P:=by
 cases c with
 | true=>exact h2 (hq rfl)
 | false=>exact h1 rfl
theorem Ok.brP {α:Type} {c:Bool} {x y:Option α} {P:α→Prop} {Q:Prop} (hq:c=true→Q) (h1:Q→Ok x P) (h2:c=false→Ok y P):Ok (br c x y) P:=by
 cases c with
 | true=>exact h1 (hq rfl)
 | false=>exact h2 rfl
set_option maxHeartbeats 4000000 in
theorem Ad (a:Ask) (hl:a.2.1.length≤6):Ok (g.bD a) (fun r=>(r.1.1=0→(a.2.2.1.1=2→1≤a.2.2.1.2.2.2.2.1∧a.2.2.1.2.2.2.2.1≤8192)∧(a.2.2.1.1=1∨a.2.2.1.1=7∨a.2.2.1.1=8∨a.2.2.1.1=10→a.2.2.1.2.1<4)∧(a.2.2.1.1=5→0<a.2.1.length))∧(a.2.2.1.1=7→r.1.1=0∨r.1.1=1)):=by
 unfold g.bD
 repeat' (first | (with_reducible refine Ok.bd (A_ _ _) (fun _ _=>?_)) | (with_reducible refine Ok.bd (A9 _ _ _) (fun _ _=>?_)) | (with_reducible refine Ok.bd (AK _) (fun _ _=>?_)) | (with_reducible refine Ok.bd (AJ _ _) (fun _ _=>?_)) | (with_reducible refine Ok.gP (aL _ _ _) ?_) | (with_reducible refine Ok.bd (uI (by assumption) _) (fun _ _=>?_)) | (with_reducible refine Ok.bd (EL (by omega)) (fun _ _=>?_)) | (with_reducible refine Ok.bd (EK (by omega) _) (fun _ _=>?_)) | (with_reducible refine Ok.bd (cK (by omega) _ _) (fun _ _=>?_)) | (with_reducible refine Ok.bd (re _ _) (fun _ _=>?_)) | (with_reducible refine Ok.brN (by assumption) (fun _=>?_) (fun _=>?_)) | (with_reducible refine Ok.brP (by assumption) (fun _=>?_) (fun _=>?_)) | (with_reducible refine Ok.br (fun _=>?_) (fun _=>?_)) | (with_reducible refine Ok.kS (fun _=>True) (fun _ _=>?_) (fun _ _=>?_)) | (with_reducible exact (by assumption:∀s,True→Ok _ _) _ trivial) | (with_reducible refine Ok.some ?_))
 all_goals
  dsimp only at *
  simp only [eh,Jl,bo,bh,kh,eI,fm] at *
  omega
theorem Qj (a:Ask) (hl:a.2.1.length≤6) (h5:a.2.2.1.1=5→0<a.2.1.length):Ok (g.cB a) (fun r=>dm a.2.2.1.1 r.1.1∧r.1.1≤15∧Cp a.2.2.1.1 r.1.1 0):=by
 unfold g.cB
 have p1:∀{o:Int},o=2∨o=3→dm o 1∧(1:Int)≤15∧Cp o 1 0:=fun h=>by unfold dm Cp;omega
 refine .kS (fun s=>s.1.1=true→a.2.2.1.1=2∨a.2.2.1.1=3) (fun s hs=>.br (fun e=>.some (p1 (hs e))) fun _=>.br (fun e=>.some ?_) fun _=>.br (fun e=>?_) fun _=>.kS (fun s=>s.1.1=true↔a.2.2.1.1=7∨a.2.2.1.1=8∨a.2.2.1.1=9) (fun s hs=>.br (fun e=>.some ?_) fun V_=>.br (fun e=>.some ?_) fun n10=>.br (fun e=>.br (fun _=>.some ?_) fun _=>.some ?_) fun Wa=>.some ?_) fun k hk=>.br (fun e=>hk _ ⟨fun _=>.inl (bo.1 e),fun _=>rfl⟩) fun n7=>.br (fun e=>hk _ ⟨fun _=>.inr (.inl (bo.1 e)),fun _=>rfl⟩) fun n8=>hk _ ⟨fun e=>.inr (.inr (bo.1 e)),fun e=>bo.2 (by have:=bh.1 n7;have:=bh.1 n8;omega)⟩) fun k hk=>.br (fun e=>hk _ fun _=>.inl (bo.1 e)) fun _=>hk _ fun e=>.inr (bo.1 e)
 ·have:=bo.1 e;dsimp only;unfold dm Cp;omega
 ·have e:=bo.1 e
  have:=h5 e
  rw [gq,bS (by omega)]
  have en:nN ((a.2.1.length:Int)-1)=a.2.1.length-1:=by unfold nN;omega
  refine .gd (by rw [bF];omega) (.gd (by rw [bZ,en,aI];omega) (.br (fun _=>.some ?_) fun _=>.some ?_))
  ·dsimp only;unfold dm Cp;omega
  ·dsimp only;unfold dm Cp;omega
 ·have:=hs.1 e;dsimp only;unfold dm Cp;omega
 ·have:=bo.1 e;dsimp only;unfold dm Cp;omega
 ·have:=bo.1 e;dsimp only;unfold dm Cp;omega
 ·have:=bo.1 e;dsimp only;unfold dm Cp;omega
 ·have aeK:¬(a.2.2.1.1=7∨a.2.2.1.1=8∨a.2.2.1.1=9):=fun h=>by have:=hs.2 h;rw [V_] at this;cases this
  have:=bh.1 Wa;dsimp only;unfold dm Cp;omega
open Go.Bm Go.oX
abbrev lY:Type:=Int×(Int×(Int×(Int×(Int×(Int×Int)))))
abbrev sY (o:Int):Prop:=o=1∨o=7∨o=8∨o=10
structure kE (n:Nat) (r:U1):Prop where
 run:rI n r
 make:Rn.op r=2→Rn.pc r=1→1≤r.1.2.2.2.2.1∧r.1.2.2.2.2.1≤8192
 eF:sY (Rn.op r)→Rn.pc r≠0∨Rn.code r=0→r.1.2.1<4
def sZ (r:U1) (m:Nat):Prop:=Cp (Rn.op r) (Rn.pc r) m∨(Rn.pc r=0∧m=0∧(Rn.op r=7→Rn.code r=1)∧(Rn.op r=8∨Rn.op r=9→Rn.code r≠0))
theorem TS {p:mE} {rg:Nat} {l:List (Int×Bool)} {c:lY} {d8:T2} {w:List Int} (hw:aT d8 rg=some w) (h4:w.length=4) (hl:l.length≤6) (hc:0≤c.2.2.1∧0≤c.2.2.2.1):Ok (g.fW p (some rg) l c d8) (fun x=>x.1.1.1=c∧(∀n≤100000,kE n x.1.1)∧sZ x.1.1 0):=by
 have tail:∀h v:Int,Ok (bd (g.cD l) (fun p0=>bd (g.bE l) (fun p1=>bd (g.bD (p,(l,(c,(h,v))))) (fun p2=>br (af p2.1.1 0) (bd (g.cB (p,(l,(c,(h,v))))) (fun p3=>some (((c,(p3.1.1,(p0.1.1,(h,(v,(p1.1.1,(0,(0,(0,(0,([],(0,([],(0,(false,(false,(false,(p2.1.1,(0,[]))))))))))))))))))),()),()))) (some (((c,(0,(p0.1.1,(h,(v,(p1.1.1,(0,(0,(0,(0,([],(0,([],(0,(false,(false,(false,(p2.1.1,(0,[]))))))))))))))))))),()),())))))) (fun x=>x.1.1.1=c∧(∀n≤100000,kE n x.1.1)∧sZ x.1.1 0):=by
  intro h v
  refine .bd (HL l (by omega)) fun p0 _=>.gP (wK (by omega)) (.bd (Ad _ hl) fun p2 h2=>.br (fun e=>.bd (Qj _ hl fun e5=>(h2.1 (bo.1 e)).2.2 e5) fun p3 h3=>.some ⟨rfl,fun n hn=>?_,.inl h3.2.2⟩) fun e=>.some ⟨rfl,fun n hn=>?_,.inr ⟨rfl,rfl,fun h7=>?_,fun _=>bh.1 e⟩⟩)
  ·obtain ⟨k1,k2,k3⟩:=h2.1 (bo.1 e)
   obtain ⟨k4,k5,_⟩:=h3
   exact ⟨⟨by show 0≤n;omega,by show 0≤n;omega,by show l.length≤100;omega,rfl,rfl,fun h=>by have h:p3.1.1=20∨p3.1.1=21:=h;omega,hn,k4⟩,fun h _=>k1 h,fun h _=>k2 h⟩
  ·exact ⟨⟨by show 0≤n;omega,by show 0≤n;omega,by show l.length≤100;omega,rfl,rfl,fun h=>by have h:(0:Int)=20∨(0:Int)=21:=h;omega,hn,.inl rfl⟩,fun h e=>by have e:(0:Int)=1:=e;omega,fun h e'=>by
    rcases e' with e' | e'
    ·exact absurd rfl e'
    ·exact absurd e' (bh.1 e)⟩
  ·rcases h2.2 h7 with h | h
   ·exact absurd h (bh.1 e)
   ·exact h
 unfold g.fW
 have hv:c.2.2.2.1<4→bp (nN c.2.2.2.1) (len w):=fun h=>by rw [bZ,dg,aI];omega
 have hh:c.2.2.1<4→bp (nN c.2.2.1) (len w):=fun h=>by rw [bZ,dg,aI];omega
 refine .br (fun _=>.br (fun _=>tail _ _) fun b=>.gC rfl (.gP hw (.gd (by rw [bF];exact hc.2) (.gd (hv (by have:=qW.1 b;omega)) (.gP hw (tail _ _)))))) fun b=>.gC rfl (.gP hw (.gd (by rw [bF];exact hc.1) (.gd (hh (by have:=qW.1 b;omega)) (.gP hw (.br (fun _=>tail _ _) fun b=>.gC rfl (.gP hw (.gd (by rw [bF];exact hc.2) (.gd (hv (by have:=qW.1 b;omega)) (.gP hw (tail _ _))))))))))
structure SD (n:Nat) (r r':U1):Prop where
 sp:SP n r r'
 code:Rn.pc r=0→Rn.code r'=Rn.code r
 once:Rn.pc r=0→Rn.done r'=true
theorem KA {n:Nat} {r:U1} (h:kE n r) (hn:n≤9000) {wi:Nat} {c0:T0} {p:mE} {fo:Option Nat} {d9:T9} {a gr:Nat} {th oo:Option Nat} {st:Int} (hw:c0[wi]?=some (p,(fo,(some a,(some gr,(th,(oo,st))))))) (hf:EU fo d9) (hp:p.1≤100) (c1:T5) (c2:T6) (c3:T7) (c4:T2) {d1:T1} {d2:T2} {d3:T3} {d4:T4} {j m:Nat} (hA:AR d1 d2 a j m) (hG:GI n d3 d4 gr) :
  Ok (g.da wi r c0 c1 c2 c3 c4 d1 d2 d3 d4 d9) (fun x=>SD n r x.1.1∧x.2.1=d1∧AR d1 x.2.2.1 a j m∧GI (n+1) x.2.2.2.1 x.2.2.2.2.1 gr∧x.2.2.2.2.2.1=d9):=by
 unfold g.da
 have e0:∀d,nth d c0 wi=(p,(fo,(some a,(some gr,(th,(oo,st)))))):=fun d=>bR hw
 simp only [e0]
 have h0:=h.run
 refine .br (fun e=>.bd (EI h0 (bo.1 e) _ _) fun q hq=>.some ⟨⟨hq.1,fun _=>hq.2.2,fun _=>hq.2.1⟩,rfl,hA,hG.up,rfl⟩) fun n0=>?_
 have n0:¬Rn.pc r=0:=bh.1 n0
 refine .br (fun e=>.gC rfl (.gC rfl (.bd (DW h0 hn (bo.1 e) (fun k=>?_) hA hG p hp) fun q hq=>.some ⟨⟨hq.1,fun e=>absurd e n0,fun e=>absurd e n0⟩,rfl,hq.2.1,hq.2.2,rfl⟩))) fun n1=>?_
 ·have:=h.make k (bo.1 e);omega
 have n1:¬Rn.pc r=1:=bh.1 n1
 refine .br (fun e=>.gC rfl (.bd (Fz h0 (bo.1 e) n0 hA p) fun q hq=>.some ⟨⟨hq.1,fun e=>absurd e n0,fun e=>absurd e n0⟩,rfl,hq.2,hG.up,rfl⟩)) fun n7=>.br (fun e=>.gC rfl (.bd (D_ h0 (bo.1 e) n0 hA p) fun q hq=>.some ⟨⟨hq.1,fun e=>absurd e n0,fun e=>absurd e n0⟩,rfl,hq.2,hG.up,rfl⟩)) fun n4=>.br (fun e=>.opt (fun e0=>.gC rfl (.bd (vL h0 (bo.1 e) n0 hA p (e0▸hf)) fun q hq=>.some ⟨⟨hq.1,fun e=>absurd e n0,fun e=>absurd e n0⟩,hq.2.1,hq.2.2.1,hG.up,hq.2.2.2⟩)) fun jf e0=>.gC rfl (.bd (vL h0 (bo.1 e) n0 hA p (e0▸hf)) fun q hq=>.some ⟨⟨hq.1,fun e=>absurd e n0,fun e=>absurd e n0⟩,hq.2.1,hq.2.2.1,hG.up,hq.2.2.2⟩)) fun n5=>.gC rfl (.bd (B4 h0 ⟨bh.1 n4,bh.1 n5,bh.1 n7⟩ ⟨n0,n1⟩ hA p) fun q hq=>.some ⟨⟨hq.1,fun e=>absurd e n0,fun e=>absurd e n0⟩,rfl,hq.2,hG.up,rfl⟩)
theorem SD.inv {n:Nat} {r r':U1} (h:kE n r) (hn:n≤9000) (s:SD n r r') (hd:Rn.done r'=false):kE (n+1) r':=by
 obtain ⟨s1,s2,s3⟩:=s
 have hp:Rn.pc r≠0:=fun e=>by have:=s3 e;rw [hd] at this;cases this
 have ho:Rn.op r'=Rn.op r:=by show r'.1.1=r.1.1;rw [s1.call]
 refine ⟨⟨s1.list,s1.said,by rw [s1.ch];exact h.run.ch,hd,s1.df.trans hd,s1.fin hd,by omega,by rw [ho];exact s1.pc hd⟩,fun o e=>?_,fun o e=>?_⟩
 ·rw [s1.call]
  have Mj:=s1.pc hd
  have h8:=h.run.pc
  rw [ho] at o
  rw [o] at h8
  refine h.make o ?_
  unfold dm at h8;omega
 ·rw [s1.call]
  rw [ho] at o
  exact h.eF o (.inl hp)
theorem SD.Zv {n:Nat} {r r':U1} (s:SD n r r') {m:Nat} (h:sZ r m):(Rn.done r'=false→sZ r' (m+1))∧(Rn.done r'=true→lG (Rn.op r') (m+1) (Rn.code r')):=by
 have ho:Rn.op r'=Rn.op r:=by show r'.1.1=r.1.1;rw [s.sp.call]
 rcases h with h | ⟨h0,rfl,h7,h8⟩
 ·have:=s.sp.Zv m h
  refine ⟨fun d=>.inl ?_,fun d=>?_⟩
  ·rw [ho];exact this.1 d
  ·rw [ho];exact this.2 d
 ·have d:=s.once h0
  have c:=s.code h0
  refine ⟨fun d'=>absurd (d.symm.trans d') (by simp),fun _=>?_⟩
  rw [ho,c]
  unfold lG
  omega
theorem SD.eF {n:Nat} {r r':U1} (h:kE n r) (s:SD n r r') (ho:sY (Rn.op r)) (hc:Rn.code r'=0):r.1.2.1<4:=by
 by_cases e:Rn.pc r=0
 ·exact h.eF ho (.inr ((s.code e).symm.trans hc))
 ·exact h.eF ho (.inl e)
open Go.Bm Go.oX
abbrev nL:Type:=List lY×(Option Nat×(List (Int×Bool)×(U1×(Bool×Int))))
abbrev oY:Type:=Int×(lY×(Int×(Int×(Int×(Int×(Int×List Int))))))
abbrev Th.calls (t:nL):List lY:=t.1
abbrev Th.hZ (t:nL):List (Int×Bool):=t.2.2.1
abbrev Th.run (t:nL):U1:=t.2.2.2.1
abbrev Th.busy (t:nL):Bool:=t.2.2.2.2.1
abbrev Th.at (t:nL):Int:=t.2.2.2.2.2
abbrev Op.to (o:oY):Int:=o.2.2.2.2.1
abbrev Op.df (o:oY):Int:=o.2.2.2.1
structure WC where
 wi:Nat
 a:Nat
 gr:Nat
 th:Nat
 j:Nat
 m:Nat
 p:mE
 fo:Option Nat
 ts:List Nat
 rs:List Nat
structure WS where
 ops:List oY
 st:Nat
 tl:List nL
 rg:List (List Int)
abbrev Ds:Type:=T0×(T1×(T2×(T3×(T4×(T6×(T7×(T2×(T9×Unit))))))))
structure TI (n k:Nat) (ops:List oY) (t:nL):Prop where
 hZ:(Th.hZ t).length≤6
 calls:(Th.calls t).length≤64
 args:∀c∈Th.calls t,0≤c.2.1∧0≤c.2.2.1∧0≤c.2.2.2.1
 busy:Th.busy t=true→kE n (Th.run t)∧0≤(Th.run t).1.2.1∧∃q:Nat,Th.at t=(q:Int)∧∃o,ops[q]?=some o∧o.1=(k:Int)∧o.2.1=(Th.run t).1∧Op.to o = -1∧Op.df o = -1
structure WI (n:Nat) (C:WC) (s:WS) (c5:T5) (D:Ds):Prop where
 world:∃oo,D.1[C.wi]?=some (C.p,(C.fo,(some C.a,(some C.gr,(some C.th,(oo,(s.st:Int)))))))∧((oo=none∧s.ops=[])∨∃jo,oo=some jo∧aT D.2.2.2.2.2.2.1 jo=some s.ops)
 ar:AR D.2.1 D.2.2.1 C.a C.j C.m
 gi:GI n D.2.2.2.1 D.2.2.2.2.1 C.gr
 iV:EU C.fo D.2.2.2.2.2.2.2.2.1
 scopes:C.p.1≤100
 rows:aT c5 C.th=some (C.ts.map some)
 four:C.ts.length≤4
 lts:s.tl.length=C.ts.length
 lrg:s.rg.length=C.ts.length
 Oz:∀(i k:Nat) x,C.ts[i]?=some x→C.ts[k]?=some x→i=k
 Qg:∀(i k:Nat) x,C.rs[i]?=some x→C.rs[k]?=some x→i=k
 said:∀o∈s.ops,o.2.2.2.2.2.2.2.length≤10000
 OA:∀(k:Nat) t,s.tl[k]?=some t→∃id rr w,C.ts[k]?=some id∧D.2.2.2.2.2.1[id]?=some t∧t.2.1=some rr∧C.rs[k]?=some rr∧s.rg[k]?=some w∧aT D.2.2.2.2.2.2.2.1 rr=some w∧w.length=4∧TI n k s.ops t
theorem kE.up {n:Nat} {r:U1} (h:kE n r) (hn:n≤9000):kE (n+1) r:=by
 obtain ⟨⟨h1,h2,h3,h4,h5,h6,h7,h8⟩,h9,Xq⟩:=h
 exact ⟨⟨by omega,by omega,h3,h4,h5,h6,by omega,h8⟩,h9,Xq⟩
theorem WI.put {n n':Nat} {C:WC} {s:WS} {c5:T5} {D:Ds} (H:WI n C s c5 D) (hn:n≤9000) (QV:n'=n∨n'=n+1) {k:Nat} {t t':nL} {id rr:Nat} (hk:s.tl[k]?=some t) (DH:C.ts[k]?=some id) (Dq:C.rs[k]?=some rr) (Wy:t'.2.1=some rr)
  {vp:List oY} {zx:Nat} {Qh:List (List Int)} {w':List Int} {D':Ds}
  (h1:∃oo,D'.1[C.wi]?=some (C.p,(C.fo,(some C.a,(some C.gr,(some C.th,(oo,(zx:Int)))))))∧((oo=none∧vp=[])∨∃jo,oo=some jo∧aT D'.2.2.2.2.2.2.1 jo=some vp))
  (h2:AR D'.2.1 D'.2.2.1 C.a C.j C.m) (h3:GI n' D'.2.2.2.1 D'.2.2.2.2.1 C.gr) (h4:D'.2.2.2.2.2.1=D.2.2.2.2.2.1.set id t')
  (h5:Qh[k]?=some w') (h5':∀i,i≠k→Qh[i]?=s.rg[i]?) (hl:Qh.length=s.rg.length) (h6:aT D'.2.2.2.2.2.2.2.1 rr=some w') (h6':∀x,x≠rr→aT D'.2.2.2.2.2.2.2.1 x=aT D.2.2.2.2.2.2.2.1 x) (hw:w'.length=4)
  (ho:∀(q:Nat) o,s.ops[q]?=some o→o.1≠(k:Int)→vp[q]?=some o) (hT:TI n' k vp t') (h9:D'.2.2.2.2.2.2.2.2.1=D.2.2.2.2.2.2.2.2.1) (WA:∀o∈vp,o.2.2.2.2.2.2.2.length≤10000) :
  WI n' C ⟨vp,zx,s.tl.set k t',Qh⟩ c5 D':=by
 have xu:k<s.tl.length:=(zB.1 hk).1
 refine ⟨h1,h2,h3,by rw [h9];exact H.iV,H.scopes,H.rows,H.four,by rw [zM];exact H.lts,by rw [hl];exact H.lrg,H.Oz,H.Qg,WA,?_⟩
 intro i t0 h0
 dsimp only at h0 ⊢
 by_cases e:i=k
 ·subst e
  rw [List.getElem?_set_self xu] at h0
  cases h0
  obtain ⟨id0,rr0,w0,a1,a2,a3,a4,a5,a6,a7,a8⟩:=H.OA i t hk
  rw [DH] at a1;cases a1
  have:id<D.2.2.2.2.2.1.length:=(zB.1 a2).1
  exact ⟨id,rr,w',DH,by rw [h4,List.getElem?_set_self this],Wy,Dq,h5,h6,hw,hT⟩
 ·rw [List.getElem?_set_ne (fun h=>e h.symm)] at h0
  obtain ⟨id0,rr0,w0,a1,a2,a3,a4,a5,a6,a7,a8⟩:=H.OA i t0 h0
  refine ⟨id0,rr0,w0,a1,?_,a3,a4,(h5' i e).trans a5,?_,a7,?_⟩
  ·rw [h4,List.getElem?_set_ne]
   ·exact a2
   ·intro h;subst h;exact e (H.Oz i k _ a1 DH)
  ·rw [h6']
   ·exact a6
   ·intro h;subst h;exact e (H.Qg i k _ a4 Dq)
  ·refine ⟨a8.hZ,a8.calls,a8.args,fun hb=>?_⟩
   obtain ⟨b1,b2,q,b3,o,b4,b5,b6⟩:=a8.busy hb
   refine ⟨?_,b2,q,b3,o,ho q o b4 (by rw [b5];intro h;exact e (by omega)),b5,b6⟩
   rcases QV with rfl | rfl
   ·exact b1
   ·exact b1.up hn
def nI (t:nL):Bool:=!(Th.busy t) && decide ((Th.calls t).length=0)
theorem y_ {d6:T6} {id:Nat} {t:nL} (h:d6[id]?=some t) (d8:T2):g.bx id d6 d8=some ((nI t,()),()):=by
 unfold g.bx nI
 rw [bR h]
 cases hb:Th.busy t with
 | true=>
  have hb:t.2.2.2.2.1=true:=hb
  rw [hb];rfl
 | false=>
  have hb:t.2.2.2.2.1=false:=hb
  rw [hb]
  show some ((af (zN (len t.1)) 0,()),())=_
  rw [gq]
  unfold af
  show some ((decide ((t.1.length:Int)=0),()),())=some ((decide (t.1.length=0),()),())
  congr 3
  simp
theorem zt {α:Type} {l:List (Option (List α))} {j:Nat} {r:List α} (h:aT l j=some r):aS l j (some r)=l:=by
 have:=Ce.1 h
 obtain ⟨dD,he⟩:=zB.1 this
 unfold aS
 rw [←he,List.set_getElem_self]
theorem yb {α:Type} {d:α} {l:List α} {i:Nat} {x:α} (h:l[i]?=some x) (f:α→α):aj d l i f=l.set i (f x):=by unfold aj aS;rw [bR h]
theorem lh {α:Type} {l:List α} {i:Nat} {x:α} (h:l[i]?=some x) (y:α):(l.set i y)[i]?=some y:=List.getElem?_set_self (zB.1 h).1
theorem Hj {d6:T6} {d8:T2} {id rr:Nat} {cs:List lY} {es:List (Int×Bool)} {r:U1} {b:Bool} {q:Int} {w:List Int} (h:d6[id]?=some (cs,(some rr,(es,(r,(b,q)))))) (hw:aT d8 rr=some w) (h4:w.length=4) (he:es.length≤6) (hr:Rn.code r=0→sY (Rn.op r)→0≤r.1.2.1∧r.1.2.1<4) :
  Ok (g.cE id d6 d8) (fun x=>∃nH w',nH.length≤6∧w'.length=4∧x.2.1=d6.set id (cs,(some rr,(nH,(r,(false,q)))))∧x.2.2.1=aS d8 rr (some w')):=by
 unfold g.cE
 have e1:∀f,aj aF d6 id f=d6.set id (f (cs,(some rr,(es,(r,(b,q)))))):=fun f=>yb h f
 have h2:=lh h (cs,(some rr,(es,(r,(false,q)))))
 have e2:∀d,nth d (d6.set id (cs,(some rr,(es,(r,(false,q)))))) id=(cs,(some rr,(es,(r,(false,q))))):=fun d=>bR h2
 have e3:∀f,aj aF (d6.set id (cs,(some rr,(es,(r,(false,q)))))) id f=d6.set id (f (cs,(some rr,(es,(r,(false,q)))))):=fun f=>by rw [yb h2];rw [List.set_set]
 simp only [e1,e2,e3]
 have same:aS d8 rr (some w)=d8:=zt hw
 refine .br (fun _=>.some ⟨es,w,he,h4,rfl,same.symm⟩) fun ec=>?_
 have ec:=bo.1 (eI.1 ec)
 refine .br (fun e=>?_) fun n1=>.kS (fun s=>s.1.1=true→sY (Rn.op r)) (fun s hs=>.br (fun e=>?_) fun _=>.br (fun _=>.bd (uI he _) fun x hx=>.some ⟨_,w,hx,h4,rfl,same.symm⟩) fun _=>.br (fun _=>.bd (uI he _) fun x hx=>.some ⟨_,w,hx,h4,rfl,same.symm⟩) fun _=>.br (fun _=>.bd (EL (by omega)) fun x hx=>.some ⟨_,w,Nat.le_trans hx.1 he,h4,rfl,same.symm⟩) fun _=>.some ⟨es,w,he,h4,rfl,same.symm⟩) fun k hk=>.br (fun e=>hk _ fun _=>.inr (.inl (bo.1 e))) fun _=>.br (fun e=>hk _ fun _=>.inr (.inr (.inl (bo.1 e)))) fun _=>hk _ fun e=>.inr (.inr (.inr (bo.1 e)))
 ·obtain ⟨r1,r2⟩:=hr ec (.inl (bo.1 e))
  exact .gC rfl (.gP hw (.gd (by rw [bF];exact r1) (.gd (by rw [bZ,dg,aI];omega) (.gP hw (.some ⟨es,_,he,by unfold aS;rw [zM];exact h4,rfl,rfl⟩)))))
 ·obtain ⟨r1,r2⟩:=hr ec (hs e)
  exact .gC rfl (.gP hw (.gd (by rw [bF];exact r1) (.gd (by rw [bZ,dg,aI];omega) (.gP hw (.some ⟨es,_,he,by unfold aS;rw [zM];exact h4,rfl,rfl⟩)))))
open Go.Bm Go.oX
def na (k:Nat) (c:lY) (st:Nat):oY:=((k:Int),(c,((st:Int),(-1,(-1,(0,(0,[])))))))
def tM (o:oY) (st:Nat) (r:U1):oY:=(o.1,(o.2.1,(o.2.2.1,((st:Int),((st:Int),r.2.2.2.2.2.2.2.2.2.2.2.2.2.2.2.2.2)))))
def js (t:nL) (r:U1):nL:=(t.1,(t.2.1,(t.2.2.1,(r,t.2.2.2.2))))
def EX (k:Nat) (t:nL) (ops:List oY) (st:Nat) (t1:nL) (fh:List oY):Prop:=
 (Th.busy t=true∧t1=t∧fh=ops)∨(Th.busy t=false∧∃c cs r,t.1=c::cs∧r.1=c∧t1=(cs,(t.2.1,(t.2.2.1,(r,(true,(ops.length:Int))))))∧fh=ops++[na k c st])
def JU (k:Nat) (t:nL) (s s':WS):Prop:=∃t1 fh r',EX k t s.ops s.st t1 fh∧s'.st=s.st+1 ∧
  ((Rn.done r'=false∧s'.ops=fh∧s'.tl=s.tl.set k (js t1 r')∧s'.rg=s.rg) ∨
   (Rn.done r'=true∧∃nH w' q o,Th.at t1=((q:Nat):Int)∧fh[q]?=some o∧o.1=(k:Int)∧Op.to o = -1∧s'.ops=fh.set q (tM o s.st r')∧s'.tl=s.tl.set k (t1.1,(t1.2.1,(nH,(r',(false,t1.2.2.2.2.2)))))∧s'.rg=s.rg.set k w'))
def nO (t:nL) (m:Nat):Prop:=(Th.busy t=true∧sZ (Th.run t) m)∨(Th.busy t=false∧m=0)
def JV (k:Nat) (t:nL) (s s':WS):Prop:=∀m:Nat,nO t m→∃t',s'.tl=s.tl.set k t'∧((Th.busy t'=true∧nO t' (m+1))∨(Th.busy t'=false∧∃(q:Nat) (o:oY),s'.ops[q]?=some o∧o.1=(k:Int)∧Op.to o=(s.st:Int)∧lG o.2.1.1 (m+1) o.2.2.2.2.2.1))
def wF (n:Nat) (C:WC) (s:WS) (c5:T5) (D:Ds) (i:Int) (r:(Bool×(Int×Unit))×Ds):Prop:=
 (r.2=D∧((¬(0≤i∧i<s.tl.length)∧r.1=(false,(2,())))∨(∃(k:Nat) (t:nL),i=(k:Int)∧s.tl[k]?=some t∧nI t=true∧r.1=(false,(23,()))))) ∨
 (r.1.2.1=0∧∃(k:Nat) (t:nL) (s':WS),i=(k:Int)∧s.tl[k]?=some t∧nI t=false∧JU k t s s'∧WI (n+1) C s' c5 r.2∧(∃t',s'.tl[k]?=some t'∧r.1.1=nI t')∧JV k t s s')
theorem qB {α:Type} {l:List α} {k:Nat} {t:α} (h:l[k]?=some t):l.set k t=l:=by
 obtain ⟨dD,he⟩:=zB.1 h
 rw [←he,List.set_getElem_self]
set_option maxHeartbeats 2000000 in
theorem HF {n:Nat} {C:WC} {s:WS} {c5:T5} {D:Ds} (H:WI n C s c5 D) (hn:n≤9000) (pT:s.st≤n) (mf:s.ops.length≤n) (i:Int) (hi : -9223372036854775808≤i∧i≤9223372036854775807) :
  Ok (g.bQ C.wi i c5 D.1 D.2.1 D.2.2.1 D.2.2.2.1 D.2.2.2.2.1 D.2.2.2.2.2.1 D.2.2.2.2.2.2.1 D.2.2.2.2.2.2.2.1 D.2.2.2.2.2.2.2.2.1) (wF n C s c5 D i):=by
 unfold g.bQ
 obtain ⟨oo,hw,WM⟩:=H.world
 have e0:∀d,nth d D.1 C.wi=(C.p,(C.fo,(some C.a,(some C.gr,(some C.th,(oo,(s.st:Int))))))):=fun d=>bR hw
 simp only [e0]
 have Dr:=H.rows
 have dD:=H.lts
 have h4:=H.four
 have hlen:zN (len (C.ts.map some))=(C.ts.length:Int):=by rw [gq,zH]
 refine .gC rfl (.gP Dr (.gP (aL _ _ _) (.br (fun hb=>.some (.inl ⟨rfl,.inl ⟨?_,rfl⟩⟩)) fun hb=>?_)))
 ·have hb:=kh.1 hb
  rw [hlen,bS (by omega)] at hb
  intro h
  have:within i 0 ((C.ts.length:Int)-1)=true:=fm.2 (by omega)
  have hb:within i 0 ((C.ts.length:Int)-1)=false:=hb
  rw [this] at hb;cases hb
 have hb:=eI.1 hb
 rw [hlen,bS (by omega)] at hb
 have hb:=fm.1 hb
 obtain ⟨k,rfl⟩:∃k:Nat,i=(k:Int):=⟨i.toNat,by omega⟩
 have hk:k<s.tl.length:=by omega
 obtain ⟨t,ht⟩:∃t,s.tl[k]?=some t:=⟨_,zD hk⟩
 obtain ⟨id,rr,w,a1,a2,a3,a4,a5,a6,a7,a8⟩:=H.OA k t ht
 have WO:nth none (C.ts.map some) (nN (k:Int))=some id:=by
  show nth none (C.ts.map some) k=some id
  exact bR (by rw [zL,a1];rfl)
 have hkg:bp (nN (k:Int)) (len (C.ts.map some)):=by rw [bZ,aI,zH];show k<_;omega
 refine .gC rfl (.gP Dr (.gd (by rw [bF];omega) (.gd hkg (.gP Dr (.gC WO (.gP (y_ a2 _) (.br (fun e=>.some (.inl ⟨rfl,.inr ⟨k,t,rfl,ht,e,rfl⟩⟩)) fun e=>?_)))))))
 have et:∀d,nth d D.2.2.2.2.2.1 id=t:=fun d=>bR a2
 have eu:∀f,aj aF D.2.2.2.2.2.1 id f=D.2.2.2.2.2.1.set id (f t):=fun f=>yb a2 f
 have es:∀(x:nL) d,nth d (D.2.2.2.2.2.1.set id x) id=x:=fun x d=>bR (lh a2 x)
 have eus:∀(x:nL) f,aj aF (D.2.2.2.2.2.1.set id x) id f=D.2.2.2.2.2.1.set id (f x):=fun x f=>by rw [yb (lh a2 x),List.set_set]
 have ew:∀f,aj bB D.1 C.wi f=D.1.set C.wi (f (C.p,(C.fo,(some C.a,(some C.gr,(some C.th,(oo,(s.st:Int)))))))):=fun f=>yb hw f
 simp only [et,eu,es,eus,ew]
 have he:nI t=false:=e
 refine .kS (fun z=>∃t1 fh,EX k t s.ops s.st t1 fh∧WI n C ⟨fh,s.st,s.tl.set k t1,s.rg⟩ c5 (z.2.2.2.2.1,(D.2.1,(D.2.2.1,(D.2.2.2.1,(D.2.2.2.2.1,(z.2.2.2.2.2.1,(z.2.2.2.2.2.2.1,(D.2.2.2.2.2.2.2.1,(D.2.2.2.2.2.2.2.2.1,())))))))))∧Th.busy t1=true∧(∀m:Nat,nO t m→sZ (Th.run t1) m)) (fun z hz=>?_) fun kk jA=>.br (fun hb=>?_) fun hb=>jA _ ⟨t,s.ops,.inl ⟨eI.1 hb,rfl,rfl⟩,?_,eI.1 hb,fun m hm=>hm.elim (fun h=>h.2) (fun h=>absurd ((eI.1 hb).symm.trans h.1) (by simp))⟩
 rotate_left
 ·-- a call ZA
  have hb:Th.busy t=false:=kh.1 hb
  have hc:0<t.1.length:=by
   unfold nI at he
   rw [hb] at he
   have:¬(t.1.length=0):=by simpa using he
   omega
  obtain ⟨c,cs,JB⟩:∃c cs,t.1=c::cs:=by
   cases QQ:t.1 with
   | nil=>rw [QQ] at hc;exact absurd hc (by simp)
   | cons c cs=>exact ⟨c,cs,rfl⟩
  have DM:=a8.args c (by show c∈t.1;rw [JB];exact zV ..)
  have ecs:tk (aw (len t.1) 1) (dr 1 t.1)=cs:=by
   rw [JB];show List.take ((cs.length+1)-1) cs=cs
   rw [Nat.add_sub_cancel,List.take_length]
  have en:∀d,nth d t.1 0=c:=fun d=>by rw [JB];rfl
  simp only [ecs,en]
  refine .gd (by rw [bZ,aI];omega) (.gd (by rw [dt,aI];omega) (.gd (by rw [dt];exact Nat.le_refl _) (.gC a3 (.bd (TS a6 a7 a8.hZ ⟨DM.2.1,DM.2.2⟩) fun x hx=>?_))))
  obtain ⟨KO,hx2,hx3⟩:=hx
  have key:∀(q:Int) (jo:Nat) (UO:T7),q=(s.ops.length:Int)→aT UO jo=some (s.ops++[na k c s.st])→Ok (kk ((),((),((),((),(D.1.set C.wi (C.p,(C.fo,(some C.a,(some C.gr,(some C.th,(some jo,(s.st:Int))))))),(D.2.2.2.2.2.1.set id (cs,(t.2.1,(t.2.2.1,(x.1.1,(true,q))))),(UO,())))))))) (wF n C s c5 D (k:Int)):=by
   intro q jo UO hq hd7
   refine jA _ ⟨(cs,(t.2.1,(t.2.2.1,(x.1.1,(true,q))))),s.ops++[na k c s.st],.inr ⟨hb,c,cs,x.1.1,JB,KO,by rw [hq],rfl⟩,?_,rfl,fun m hm=>hm.elim (fun h=>absurd (hb.symm.trans h.1) (by simp)) (fun h=>by rw [h.2];exact hx3)⟩
   refine H.put (t':=(cs,(t.2.1,(t.2.2.1,(x.1.1,(true,q)))))) (vp:=s.ops++[na k c s.st]) (D':=(D.1.set C.wi (C.p,(C.fo,(some C.a,(some C.gr,(some C.th,(some jo,(s.st:Int))))))),(D.2.1,(D.2.2.1,(D.2.2.2.1,(D.2.2.2.2.1,(D.2.2.2.2.2.1.set id (cs,(t.2.1,(t.2.2.1,(x.1.1,(true,q))))),(UO,(D.2.2.2.2.2.2.2.1,(D.2.2.2.2.2.2.2.2.1,())))))))))) hn (.inl rfl) ht a1 a4 a3 ⟨some jo,lh hw _,.inr ⟨jo,rfl,hd7⟩⟩ H.ar H.gi rfl a5 (fun _ _=>rfl) rfl a6 (fun _ _=>rfl) a7 (fun q' o' h' _=>?_) ⟨a8.hZ,?_,?_,fun _=>⟨hx2 n (by omega),?_,s.ops.length,hq,na k c s.st,?_,rfl,?_,rfl,rfl⟩⟩ rfl (fun o' DA=>?_)
   ·rw [zK (zB.1 h').1];exact h'
   ·have:=a8.calls;show cs.length≤64
    have h':t.1.length≤64:=this
    rw [JB] at h';rw [zR] at h';omega
   ·intro c' Fg
    exact a8.args c' (by show c'∈t.1;rw [JB];exact zT _ Fg)
   ·show 0≤x.1.1.1.2.1;rw [KO];exact DM.1
   ·rw [zJ (Nat.le_refl _),Nat.sub_self];rfl
   ·exact KO.symm
   ·rcases zX.1 DA with h | h
    ·exact H.said o' h
    ·rw [zF] at h;subst h;exact Nat.zero_le _
  have one:bz (len (α:=oY) [na k c s.st]) 16777216:=by rw [dt,aI];show 1≤_;omega
  rcases WM with ⟨rfl,sc⟩ | ⟨jo,rfl,Jw⟩
  ·refine .Ao rfl (.Ao rfl (.gd one (key 0 (len D.2.2.2.2.2.2.1) _ (by rw [sc];rfl) ?_)))
   rw [sc]
   exact gz
  ·refine .gC rfl (.gP Jw (.gC rfl (.gP Jw (.gd ?_ (.gd ?_ (key _ (len (aS D.2.2.2.2.2.2.1 jo none)) _ (gq _) ?_))))))
   ·rw [dt]
    show len s.ops+len (α:=oY) [na k c s.st]≤_
    rw [aI,aI];show _+1≤_;omega
   ·rw [bZ,aI];exact o9 Jw
   ·exact gz
 ·-- one is on its way
  rw [qB ht]
  exact H
 obtain ⟨t1,fh,hB,H1,Xh,hcz⟩:=hz
 obtain ⟨oo1,Jq,WL⟩:=H1.world
 have UF:(s.tl.set k t1)[k]?=some t1:=List.getElem?_set_self hk
 obtain ⟨id1,Uc,w1,b1,b2,b3,b4,b5,b6,b7,b8⟩:=H1.OA k t1 UF
 rw [a1] at b1;cases b1
 rw [a4] at b4;cases b4
 obtain ⟨c1,c2,q,c3,o,c4,UQ,c6,c7,c8⟩:=b8.busy Xh
 obtain ⟨jo,rfl,Jw⟩:∃jo,oo1=some jo∧aT z.2.2.2.2.2.2.1 jo=some fh:=by
  rcases WL with ⟨_,h⟩ | ⟨jo,h1,h2⟩
  ·have h:fh=[]:=h
   rw [h] at c4;cases c4
  ·exact ⟨jo,h1,h2⟩
 have f0:∀d,nth d z.2.2.2.2.1 C.wi=(C.p,(C.fo,(some C.a,(some C.gr,(some C.th,(some jo,(s.st:Int))))))):=fun d=>bR Jq
 have ft:∀d,nth d z.2.2.2.2.2.1 id=t1:=fun d=>bR b2
 have fu:∀f,aj aF z.2.2.2.2.2.1 id f=z.2.2.2.2.2.1.set id (f t1):=fun f=>yb b2 f
 have fw:∀f,aj bB z.2.2.2.2.1 C.wi f=z.2.2.2.2.1.set C.wi (f (C.p,(C.fo,(some C.a,(some C.gr,(some C.th,(some jo,(s.st:Int)))))))):=fun f=>yb Jq f
 simp only [f0,ft,fu,fw]
 refine .kS (fun y=>∃r',SD n (Th.run t1) r'∧y.2.2.2.2.1=D.2.1∧AR D.2.1 y.2.2.2.2.2.1 C.a C.j C.m∧GI (n+1) y.2.2.2.2.2.2.1 y.2.2.2.2.2.2.2.1 C.gr∧y.2.2.2.2.2.2.2.2.1=z.2.2.2.2.2.1.set id (js t1 r')∧y.2.2.2.2.2.2.2.2.2.1=D.2.2.2.2.2.2.2.2.1) (fun y hy=>?_) fun kk jA=>.bd (KA c1 hn Jq H.iV H.scopes _ _ _ _ H.ar H.gi) fun x hx=>jA _ ⟨x.1.1,hx.1,hx.2.1,hx.2.2.1,hx.2.2.2.1,rfl,hx.2.2.2.2⟩
 obtain ⟨r',hS,y1,y2,y3,y4,y5⟩:=hy
 have g2:=lh b2 (js t1 r')
 rw [←y4] at g2
 have gt:∀d,nth d y.2.2.2.2.2.2.2.2.1 id=js t1 r':=fun d=>bR g2
 simp only [gt]
 have bL:(js t1 r').2.2.2.2.2=(q:Int):=c3
 have vQ:q<fh.length:=(zB.1 c4).1
 have eq0:nN (q:Int)=q:=rfl
 simp only [bL,eq0]
 refine .gC rfl (.gP Jw (.gd (by rw [bF];omega) (.gd (by rw [bZ,aI];exact vQ) (.kS (fun v=>aT v.2.2.2.2.1 jo=some (if Rn.df r'=true then fh.set q (o.1,(o.2.1,(o.2.2.1,((s.st:Int),o.2.2.2.2)))) else fh)) (fun v hv=>?_) fun kk jA=>.br (fun e=>.gP Jw (jA _ ?_)) fun e=>jA _ ?_))))
 rotate_left
 ·have e:Rn.df r'=true:=e
  rw [if_pos e]
  show aT (aS _ _ _) _=_
  rw [cl Jw,yb c4]
 ·have e:Rn.df r'=false:=e
  rw [if_neg (by rw [e];simp)]
  exact Jw
 refine .kS (fun u=>∃t2 Ap w2,u.2.2.2.2.1=z.2.2.2.2.2.1.set id t2∧aT u.2.2.2.2.2.1 jo=some Ap∧aT u.2.2.2.2.2.2.1 rr=some w2∧w2.length=4∧(∀x,x≠rr→aT u.2.2.2.2.2.2.1 x=aT D.2.2.2.2.2.2.2.1 x)∧((Rn.done r'=false∧t2=js t1 r'∧Ap=fh∧w2=w1)∨(Rn.done r'=true∧∃nH,nH.length≤6∧t2=(t1.1,(t1.2.1,(nH,(r',(false,t1.2.2.2.2.2)))))∧Ap=fh.set q (tM o s.st r')))) (fun u hu=>?_) fun kk jA=>.br (fun e=>?_) fun e=>?_
 rotate_left
 ·-- a call is done
  have e:Rn.done r'=true:=e
  have ep:Rn.df r'=true:=hS.sp.df.trans e
  rw [if_pos ep] at hv
  refine .gP hv (.gP (cl hv) ?_)
  have WD:Rn.code r'=0→sY (Rn.op r')→0≤r'.1.2.1∧r'.1.2.1<4:=fun h1 h2=>by
   rw [hS.sp.call]
   have h2:sY (Rn.op (Th.run t1)):=by
    have:Rn.op r'=Rn.op (Th.run t1):=by show r'.1.1=_;rw [hS.sp.call]
    rw [←this];exact h2
   exact ⟨c2,hS.eF c1 h2 h1⟩
  have g3:y.2.2.2.2.2.2.2.2.1[id]?=some (t1.1,(some rr,(t1.2.2.1,(r',(t1.2.2.2.2.1,t1.2.2.2.2.2))))):=by
   rw [g2];unfold js;rw [b3]
  refine .bd (Hj g3 b6 b7 b8.hZ WD) fun x hx=>?_
  obtain ⟨nH,w',x1,x2,x3,x4⟩:=hx
  refine jA _ ⟨(t1.1,(t1.2.1,(nH,(r',(false,t1.2.2.2.2.2))))),fh.set q (tM o s.st r'),w',?_,?_,?_,x2,?_,.inr ⟨e,nH,x1,rfl,rfl⟩⟩
  ·show x.2.1=_
   rw [x3,y4,List.set_set,b3]
  ·show aT (aS _ jo _) jo=_
   have h1:=lh c4 (o.1,(o.2.1,(o.2.2.1,((s.st:Int),o.2.2.2.2))))
   rw [cl (cl hv),yb h1,List.set_set]
   rw [yb (lh c4 _),List.set_set]
   rfl
  ·show aT x.2.2.1 rr=_
   rw [x4,cl b6]
  ·intro x' nQ
   show aT x.2.2.1 x'=_
   rw [x4,yj (o9 b6),if_neg (fun h=>nQ h.symm)]
 ·-- it aeQ on
  have e:Rn.done r'=false:=e
  have ep:Rn.df r'=false:=hS.sp.df.trans e
  rw [if_neg (by rw [ep];simp)] at hv
  exact jA _ ⟨js t1 r',fh,w1,y4,hv,b6,b7,fun _ _=>rfl,.inl ⟨e,rfl,rfl,rfl⟩⟩
 obtain ⟨t2,Ap,w2,u1,u2,u3,u4,u5,u6⟩:=hu
 have h2:=lh b2 t2
 rw [←u1] at h2
 refine .gP (y_ h2 _) (.some (.inr ⟨rfl,k,t,⟨Ap,s.st+1,s.tl.set k t2,s.rg.set k w2⟩,rfl,ht,he,?_,?_,⟨t2,List.getElem?_set_self hk,rfl⟩,?_⟩))
 rotate_left 2
 ·intro m hm
  have hc:=hS.Zv (hcz m hm)
  refine ⟨t2,rfl,?_⟩
  rcases u6 with ⟨e,rfl,rfl,rfl⟩ | ⟨e,nH,e1,rfl,rfl⟩
  ·exact .inl ⟨Xh,.inl ⟨Xh,hc.1 e⟩⟩
  ·refine .inr ⟨rfl,q,tM o s.st r',List.getElem?_set_self vQ,UQ,rfl,?_⟩
   have h:=hc.2 e
   have ho:Rn.op r'=o.2.1.1:=by show r'.1.1=_;rw [hS.sp.call,c6]
   rw [ho] at h
   exact h
 ·refine ⟨t1,fh,r',hB,rfl,?_⟩
  rcases u6 with ⟨e,rfl,rfl,rfl⟩ | ⟨e,nH,e1,rfl,rfl⟩
  ·exact .inl ⟨e,rfl,rfl,qB b5⟩
  ·exact .inr ⟨e,nH,w2,q,o,c3,c4,UQ,c7,rfl,rfl,rfl⟩
 ·have WY:k<s.rg.length:=by have:=H.lrg;omega
  have key:=H1.put (n':=n+1) (t':=t2) (vp:=Ap) (zx:=s.st+1) (Qh:=s.rg.set k w2) (w':=w2) (D':=(z.2.2.2.2.1.set C.wi (C.p,(C.fo,(some C.a,(some C.gr,(some C.th,(some jo,ae .i64 (s.st:Int) 1)))))),(y.2.2.2.2.1,(y.2.2.2.2.2.1,(y.2.2.2.2.2.2.1,(y.2.2.2.2.2.2.2.1,(u.2.2.2.2.1,(u.2.2.2.2.2.1,(u.2.2.2.2.2.2.1,(y.2.2.2.2.2.2.2.2.2.1,()))))))))))
   hn (.inr rfl) UF a1 a4 ?_ ⟨some jo,?_,.inr ⟨jo,rfl,u2⟩⟩ ?_ y3 u1 ?_ ?_ ?_ u3 u5 u4 ?_ ?_ y5 ?_
  ·have e2:(s.tl.set k t1).set k t2=s.tl.set k t2:=List.set_set ..
   rw [e2] at key
   exact key
  ·rcases u6 with ⟨e,rfl,rfl,rfl⟩ | ⟨e,nH,e1,rfl,rfl⟩
   ·exact b3
   ·exact b3
  ·show (z.2.2.2.2.1.set C.wi _)[C.wi]?=_
   rw [lh Jq,aU (by omega)]
   rfl
  ·show AR y.2.2.2.2.1 _ _ _ _
   rw [y1];exact y2
  ·exact List.getElem?_set_self WY
  ·intro i' Jy
   exact List.getElem?_set_ne (fun h=>Jy h.symm)
  ·exact zM ..
  ·intro q' o' h' j_
   rcases u6 with ⟨e,rfl,rfl,rfl⟩ | ⟨e,nH,e1,rfl,rfl⟩
   ·exact h'
   ·rw [List.getElem?_set_ne]
    ·exact h'
    ·intro h
     subst h
     have h':fh[q]?=some o':=h'
     rw [c4] at h';cases h'
     exact j_ UQ
  ·rcases u6 with ⟨e,rfl,rfl,rfl⟩ | ⟨e,nH,e1,rfl,rfl⟩
   ·exact ⟨b8.hZ,b8.calls,b8.args,fun _=>⟨hS.inv c1 hn e,by show 0≤r'.1.2.1;rw [hS.sp.call];exact c2,q,c3,o,c4,UQ,by show _=r'.1;rw [hS.sp.call];exact c6,c7,c8⟩⟩
   ·exact ⟨e1,b8.calls,b8.args,fun h=>by cases h⟩
  ·rcases u6 with ⟨e,rfl,rfl,rfl⟩ | ⟨e,nH,e1,rfl,rfl⟩
   ·exact H1.said
   ·intro o' DA
    rcases List.mem_or_eq_of_mem_set DA with h | rfl
    ·exact H1.said o' h
    ·have:=hS.sp.zm e
     show (Rn.zm r').length≤10000
     omega
open Go.Bm Go.oX
theorem AF {α:Type} {d x:α} {l:List α}:nth d (cat l [x]) (len l)=x:=vD
def mK (o:oQ):Prop:=(o.1=0∧0≤o.2.1∧o.2.1≤99∧o.2.2=0)∨(o.1=1∧0≤o.2.1∧o.2.1≤5∧o.2.2=0)∨(o.1=2∧0≤o.2.1∧o.2.1≤5∧0≤o.2.2∧o.2.2≤5)∨(o.1=3∧0≤o.2.1∧o.2.1≤5∧0≤o.2.2∧o.2.2≤8)∨(o.1=4∧o.2.1=0∧o.2.2=0)
def iI (f:List (List oQ)):Prop:=f.length≤8∧∀l∈f,l.length≤8∧∀o∈l,mK o
theorem iI.ok {f:List (List oQ)} (h:iI f):D2 f:=⟨h.1,fun l hl=>⟨(h.2 l hl).1,fun o ho=>by
 have:=(h.2 l hl).2 o ho
 unfold mK at this;unfold Ky;omega⟩⟩
theorem wc {f:List (List oQ)} {i:Nat} {l:List oQ} (hl:nth [] f i=l) (h8:l.length≤8) (ho:∀o∈l,mK o) (v1) :
  loop (g.gW f (((i:Int),()),((),((),((),())))) v1) ((0,()),((),((),((),()))))=v1 (((ae IntKind.i64 (i:Int) 1),()),((),((),((),())))):=by
 refine (lu (fun k=>((((k:Nat):Int),()),((),((),((),()))))) (fun _=>v1 (((ae IntKind.i64 (i:Int) 1),()),((),((),((),()))))) l.length (by unfold lQ;omega) (fun K=>?_) (fun k hk=>.inr ⟨rfl,fun K=>?_⟩))
 ·unfold g.gW
  dsimp only
  rw [show nth [] f (nN (i:Int))=l from hl]
  repeat refine HS ?_
  rfl
 ·have hp:=ho l[k] (List.getElem_mem hk)
  have e:∀d,nth d l (nN (k:Int))=l[k]:=fun d=>fy hk
  unfold g.gW
  dsimp only
  rw [show nth [] f (nN (i:Int))=l from hl]
  rw [e]
  generalize l[k]=o at *
  have ei:ae IntKind.i64 (k:Int) 1=((k+1:Nat):Int):=by rw [aU (by omega)];omega
  have ew:cy IntKind.i64 o.1=o.1:=fS (by unfold mK at hp;omega)
  rw [ei,ew]
  obtain ⟨op,a,b⟩:=o
  unfold mK at hp
  dsimp only at hp ⊢
  have wT:∀x lo hi:Int,lo≤x→x≤hi→within x lo hi=true:=fun x lo hi h1 h2=>ku.2 ⟨h1,h2⟩
  rcases hp with ⟨rfl,h1,h2,rfl⟩ | ⟨rfl,h1,h2,rfl⟩ | ⟨rfl,h1,h2,h3,h4⟩ | ⟨rfl,h1,h2,h3,h4⟩ | ⟨rfl,rfl,rfl⟩
  ·have w1:=wT a 0 99 (by omega) (by omega)
   have w2:=wT 0 0 0 (by omega) (by omega)
   repeat refine HS ?_
   rfl
  ·have w1:=wT a 0 5 (by omega) (by omega)
   have w2:=wT 0 0 0 (by omega) (by omega)
   repeat refine HS ?_
   rfl
  ·have w1:=wT a 0 5 (by omega) (by omega)
   have w2:=wT b 0 5 (by omega) (by omega)
   repeat refine HS ?_
   rfl
  ·have w1:=wT a 0 5 (by omega) (by omega)
   have w2:=wT b 0 8 (by omega) (by omega)
   repeat refine HS ?_
   rfl
  ·have w2:=wT 0 0 0 (by omega) (by omega)
   repeat refine HS ?_
   rfl
theorem wb {f:List (List oQ)} (h:iI f):g.jI f=some ((true,()),()):=by
 have h8:=h.1
 unfold g.jI
 refine (lu (fun k=>((((k:Nat):Int),()),((),((),((),()))))) (fun _=>some ((true,()),())) f.length (by unfold lQ;omega) (fun K=>?_) (fun k hk=>.inr ⟨rfl,fun K=>?_⟩))
 ·unfold g.ik
  dsimp only
  repeat refine HS ?_
  have:dn (zN (len f)) 8=true:=decide_eq_true (by rw [fL,aI];omega)
  rw [this]
 ·have hl:=h.2 f[k] (List.getElem_mem hk)
  unfold g.ik
  dsimp only
  repeat refine HS ?_
  refine Eq.trans (wc (fy hk) hl.1 hl.2 K) ?_
  have ei:ae IntKind.i64 (k:Int) 1=((k+1:Nat):Int):=by rw [aU (by omega)];omega
  rw [ei]
theorem ui {r2:T3} {r4:T4} {a n:Int} (ha:0≤a∧a≤65536∧a%8=0) (hn:0≤n∧n≤65536∧n%8=0) :
  ∃pR pQ,g.fP a n r2 r4=some (((some r2.length),(0,())),(pR,(pQ,())))∧m4 pR pQ r2.length a (a+n) (if 0<n then [(a,n)] else []):=by
 have w1:within a 0 65536=true:=ku.2 ⟨ha.1,ha.2.1⟩
 have w2:within n 0 65536=true:=ku.2 ⟨hn.1,hn.2.1⟩
 have hb:=(yu (a:=a) (b:=n) (by omega) (by omega)).2 ⟨ha.2.2,hn.2.2⟩
 have es:ae IntKind.i64 a n=a+n:=aU (by omega)
 by_cases h0:0<n
 ·rw [if_pos h0]
  refine ⟨?r2,?r4,?eq,?rel⟩
  case eq=>
   unfold g.fP
   repeat refine HS ?_
   rfl
  case rel=>
   rw [es]
   refine ⟨some r4.length,?_,.inr ⟨_,rfl,gz⟩⟩
   unfold aj
   rw [AF]
   exact o6 (by show (r2++[_])[r2.length]?=_;simp;rfl)
 ·rw [if_neg h0]
  refine ⟨?s2,?s4,?eq2,?rel2⟩
  case eq2=>
   unfold g.fP
   repeat refine HS ?_
   rfl
  case rel2=>
   rw [es]
   exact ⟨none,by show (r2++[_])[r2.length]?=_;simp,.inl ⟨rfl,rfl⟩⟩
open Go.Bm Go.oX
theorem uj {p:mE} (hp:eM p=true) (d1:T1) (d2:T2) (d3:T3) (d4:T4):Ok (g.jH p d1 d2 d3 d4) (fun r=>r.1.1=some d1.length∧r.1.2.1=some d3.length∧(∃m,AR r.2.1 r.2.2.1 d1.length d2.length m)∧GI 0 r.2.2.2.1 r.2.2.2.2.1 d3.length):=by
 have h:=fa.1 hp
 have e1:g.jF p=some ((p.1*64+p.2.2.1+p.2.2.2,(0,())),()):=by
  unfold g.jF
  rw [xV (pI hp),aU (by dsimp only;omega)]
 have hN:0≤p.1*64+p.2.2.1+p.2.2.2∧p.1*64+p.2.2.1+p.2.2.2≤65536∧(p.1*64+p.2.2.1+p.2.2.2)%8=0:=by omega
 generalize hM:p.1*64+p.2.2.1+p.2.2.2=M at e1 hN
 have e2:g.jL M d1 d2=some (((some d1.length),(0,())),((cat d1 [some d2.length]),((cat d2 [some (rep (α:=Int) (nN M) 0)]),()))):=by
  unfold g.jL
  rw [xV (aL _ _ _)]
  have:within M 0 65536=true:=fm.2 (by omega)
  rw [this]
  show br (ax (af (bO M 8) 0)) _ _=_
  have:af (bO M 8) 0=true:=bo.2 (by rw [yI (by omega)];omega)
  rw [this]
  show gd (bn M) _=_
  rw [vZ (show bn M by rw [bF];omega),vZ (show bz (nN M) 16777216 by rw [dt,dg];omega)]
  rfl
 have hA:AR (cat d1 [some d2.length]) (cat d2 [some (rep (α:=Int) (nN M) 0)]) d1.length d2.length M.toNat:=⟨by show (d1++[_])[d1.length]?=_;simp,by omega,_,gz,by show (List.replicate _ _).length=_;rw [List.length_replicate];rfl⟩
 obtain ⟨r3,r4,e3,hG⟩:=ui (r2:=d3) (r4:=d4) (a:=p.1*64+p.2.2.1) (n:=p.2.2.2) (by omega) (by omega)
 have hGI:GI 0 r3 r4 d3.length:=by
  refine ⟨_,_,_,hG,by omega,?_,?_⟩
  ·intro x hx
   split at hx
   ·rw [zF] at hx;subst hx;unfold iZ;dsimp only;omega
   ·cases hx
  ·split
   ·exact Nat.le_refl _
   ·exact Nat.zero_le _
 unfold g.jH
 refine .gP e1 (.br (fun e=>nomatch (show false=true from e)) fun _=>.gP e2 (.gC rfl (.gP (pI hp) (.gP e3 (.gC rfl (.gP (lK hp) (.bd (dL hA _ _ _) fun w hw=>.bd (bJ hw _ _ _ _) fun w hw=>.bd (bJ hw _ _ _ _) fun w hw=>.some ⟨rfl,rfl,⟨_,hw⟩,hGI⟩)))))))
theorem Es {α:Type} {d x:α} {l:List α}:nth d (cat l [x]) (len l)=x:=bR (by show (l++[x])[l.length]?=_;simp)
theorem Er {α:Type} {d x:α} {l:List α} (f:α→α):aj d (cat l [x]) (len l) f=cat l [f x]:=by
 rw [yb (show (cat l [x])[len l]?=some x by show (l++[x])[l.length]?=_;simp)]
 show (l++[x]).set l.length (f x)=l++[f x]
 rw [List.set_append_right _ _ (Nat.le_refl _),Nat.sub_self];rfl
theorem JX {l:List oQ} (hl:l.length≤100):g.eN l=some ((l,()),()):=by
 unfold g.eN
 rw [vZ (show bz (aK 0 (len l)) 16777216 by rw [dt,aI];show 0+_≤_;omega)]
 rfl
theorem TU {l:List lY} (hl:l.length≤100):g.fY l=some ((l,()),()):=by
 unfold g.fY
 rw [vZ (show bz (aK 0 (len l)) 16777216 by rw [dt,aI];show 0+_≤_;omega)]
 rfl
def VW:U1:=((0,(0,(0,(0,(0,(0,0)))))),(0,(0,(0,(0,([],(0,(0,(0,(0,([],(0,([],(0,(false,(false,(false,(0,(0,[])))))))))))))))))))
def OB (cV:List (List lY)) (b i:Nat):nL:=(cV.getD i [],(some (b+i),([],(VW,(false,0)))))
def BY (cV:List (List lY)) (b k:Nat):List nL:=(List.range k).map (OB cV b)
theorem uU (cV:List (List lY)) (b k:Nat):BY cV b (k+1)=BY cV b k++[OB cV b k]:=by unfold BY;rw [List.range_succ,List.map_append];rfl
theorem te (cV:List (List lY)) (b k:Nat):(BY cV b k).length=k:=by unfold BY;rw [zH,List.length_range]
def ids (b k:Nat):List Nat:=(List.range k).map (fun i=>b+i)
theorem Dm (b k:Nat):ids b (k+1)=ids b k++[b+k]:=by unfold ids;rw [List.range_succ,List.map_append];rfl
theorem mN (b k:Nat):(ids b k).length=k:=by unfold ids;rw [zH,List.length_range]
theorem ub {b k i x:Nat} (h:(ids b k)[i]?=some x):x=b+i∧i<k:=by
 have hi:i<k:=by have:=(zB.1 h).1;rw [mN] at this;exact this
 unfold ids at h
 rw [zL,List.getElem?_range hi] at h
 cases h
 exact ⟨rfl,hi⟩
theorem yQ {b k i:Nat} (h:i<k):(ids b k)[i]?=some (b+i):=by
 unfold ids
 rw [zL,List.getElem?_range h];rfl
theorem wV {cV:List (List lY)} {b k i:Nat} {t:nL} (h:(BY cV b k)[i]?=some t):t=OB cV b i∧i<k:=by
 have hi:i<k:=by have:=(zB.1 h).1;rw [te] at this;exact this
 unfold BY at h
 rw [zL,List.getElem?_range hi] at h
 cases h
 exact ⟨rfl,hi⟩
def tH (p:mE) (cV:List (List lY)):Prop:=(cV.length:Int)≤p.2.1∧∀l∈cV,l.length≤64∧∀c∈l,0≤c.2.1∧0≤c.2.2.1∧0≤c.2.2.2.1
def NH (p:mE) (cV:List (List lY)) (b:Nat):WS:=⟨[],0,BY cV b p.2.1.toNat,List.replicate p.2.1.toNat [0,0,0,0]⟩
def zp (p:mE) (cV:List (List lY)) (c7:T7) (d0:T0) (d7:T2) (r:(Option Nat×(Int×Unit))×(T0×(T1×(T2×(T3×(T4×(T5×(T6×(T2×(T9×Unit)))))))))):Prop:=
 r.1.1=some d0.length∧r.1.2.1=0∧∃C:WC,C.wi=d0.length∧C.ts.length=p.2.1.toNat∧WI 0 C (NH p cV d7.length) r.2.2.2.2.2.2.1 (r.2.1,(r.2.2.1,(r.2.2.2.1,(r.2.2.2.2.1,(r.2.2.2.2.2.1,(r.2.2.2.2.2.2.2.1,(c7,(r.2.2.2.2.2.2.2.2.1,(r.2.2.2.2.2.2.2.2.2.1,())))))))))
set_option maxHeartbeats 2000000 in
theorem L7 {p:mE} (hp:eM p=true) {iV:List (List oQ)} (hf:iI iV) {cV:List (List lY)} (hq:tH p cV) (c7:T7) (d0:T0) (d1:T1) (d2:T2) (d3:T3) (d4:T4) (d5:T5) (d6:T6) (d7:T2) (d9:T9) :
  Ok (g.iC p iV cV c7 d0 d1 d2 d3 d4 d5 d6 d7 d9) (zp p cV c7 d0 d7):=by
 have Uz:=fa.1 hp
 have hf8:=hf.1
 obtain ⟨q1,q2⟩:=hq
 unfold g.iC
 refine .kS (fun _=>True) (fun s _=>?_) fun kk jA=>.gP (dx p) (.br (fun e=>?_) fun _=>.gP (wb hf) (.br (fun e=>absurd e (by decide)) fun _=>.br (fun e=>?_) fun _=>?_))
 rotate_left
 ·have e:ax (eM p)=true:=e
  rw [hp] at e;cases e
 ·have:=eh.1 e
  rw [gq] at this;omega
 ·refine .loop (fun m s=>∃k:Nat,s.1.1=(k:Int)∧k+m=cV.length) (fun m s gg hI ih=>?_) (N:=cV.length) (by unfold lQ;omega) ⟨0,rfl,by omega⟩
  obtain ⟨k,h1,h2⟩:=hI
  unfold g.jq
  rw [gq,h1]
  refine .br (fun hb=>?_) fun _=>jA _ trivial
  have hb:=eh.1 hb
  have ek:nN (k:Int)=k:=rfl
  refine .gd (by rw [bF];omega) (.gd (by rw [bZ,aI,ek];omega) (.br (fun e=>?_) fun _=>ih (m-1) _ (by omega) ⟨k+1,?_,by omega⟩))
  ·have e:=eh.1 e
   rw [gq,ek,fy (show k<cV.length by omega)] at e
   have:=(q2 _ (List.getElem_mem (show k<cV.length by omega))).1
   omega
  ·show ae .i64 (k:Int) 1=_;rw [aU (by omega)];rfl
 refine .bd (uj hp d1 d2 d3 d4) fun v hv=>?_
 obtain ⟨v1,v2,⟨ma,v3⟩,v4⟩:=hv
 refine .gC v1 (.gC v2 ?_)
 refine .loop (fun m s=>∃(k:Nat) (fo:Option Nat),s.1.1=(k:Int)∧k+m=iV.length∧s.2.2.2.2.1=cat d0 [(p,(fo,(some d1.length,(some d3.length,(none,(none,0))))))]∧((fo=none∧k=0)∨∃jf,fo=some jf∧aT s.2.2.2.2.2.1 jf=some (iV.take k))) (fun m s gg hI ih=>?_) (N:=iV.length) (by unfold lQ;omega) ⟨0,none,rfl,by omega,rfl,.inl ⟨rfl,rfl⟩⟩
 obtain ⟨k,fo,h1,h2,h3,h4⟩:=hI
 unfold g.du
 rw [gq,h1,h3]
 simp only [Es,Er]
 refine .br (fun hb=>?_) fun hb=>?_
 ·have hb:=eh.1 hb
  have ek:nN (k:Int)=k:=rfl
  have hk:k<iV.length:=by omega
  have en:nth [] iV (nN (k:Int))=iV[k]:=by rw [ek];exact fy hk
  have pV:(iV[k]).length≤100:=by have:=(hf.2 _ (List.getElem_mem hk)).1;omega
  have hi:ae .i64 (k:Int) 1=((k+1:Nat):Int):=by rw [aU (by omega)];rfl
  rw [en]
  refine .gd (by rw [bF];omega) (.gd (by rw [bZ,aI,ek];exact hk) ?_)
  rcases h4 with ⟨rfl,rfl⟩ | ⟨jf,rfl,hj⟩
  ·refine .Ao rfl (.gP (JX pV) (.gd (by rw [dt,aI];show 1≤_;omega) (ih (m-1) _ (by omega) ⟨1,some (len s.2.2.2.2.2.1),hi,by omega,rfl,.inr ⟨_,rfl,?_⟩⟩)))
   show aT (cat _ _) _=_
   rw [show (len s.2.2.2.2.2.1)=List.length s.2.2.2.2.2.1 from rfl,gz]
   congr 1
   rw [List.take_succ_eq_append_getElem hk];rfl
  ·refine .gC rfl (.gP (JX pV) (.gP hj (.gd ?_ (.gd (by rw [bZ,aI];exact o9 hj) (ih (m-1) _ (by omega) ⟨k+1,some (len (aS s.2.2.2.2.2.1 jf none)),hi,by omega,rfl,.inr ⟨_,rfl,?_⟩⟩)))))
   ·rw [dt];show len (iV.take k)+1≤_;rw [aI,List.length_take];omega
   ·show aT (cat _ _) _=_
    rw [show (len (aS s.2.2.2.2.2.1 jf none))=List.length (aS s.2.2.2.2.2.1 jf none) from rfl,gz]
    congr 1
    rw [List.take_succ_eq_append_getElem hk];rfl
 have hb:=gD.1 hb
 have hk:k=iV.length:=by omega
 have hF:EU fo s.2.2.2.2.2.1:=by
  refine ⟨iV,hf.ok,?_⟩
  rcases h4 with ⟨rfl,h0⟩ | ⟨jf,rfl,hj⟩
  ·exact .inl ⟨rfl,zZ (by omega)⟩
  ·rw [hk,List.take_length] at hj
   exact .inr ⟨jf,rfl,hj⟩
 clear ih hb h4
 have hT:∃n:Nat,p.2.1=(n:Int)∧1≤n∧n≤4:=⟨p.2.1.toNat,by omega,by omega,by omega⟩
 obtain ⟨nt,WO,n1,n4⟩:=hT
 refine .loop (fun m z=>∃(i:Nat) (TY:Option Nat),z.1.1=(i:Int)∧i+m=nt∧z.2.2.2.2.1=cat d0 [(p,(fo,(some d1.length,(some d3.length,(TY,(none,0))))))]∧z.2.2.2.2.2.2.1=d6++BY cV d7.length i∧z.2.2.2.2.2.2.2.1=d7++List.replicate i (some [0,0,0,0])∧((TY=none∧i=0)∨∃th,TY=some th∧aT z.2.2.2.2.2.1 th=some ((ids d6.length i).map some))) (fun m z gg hI ih=>?_) (N:=nt) (by unfold lQ;omega) ⟨0,none,rfl,by omega,rfl,by show d6=d6++[];simp,by show d7=d7++[];simp,.inl ⟨rfl,rfl⟩⟩
 obtain ⟨i,TY,i1,i2,i3,i4,i5,i6⟩:=hI
 unfold g.jr
 rw [i1,i3,WO]
 simp only [Es,Er]
 have e6:len z.2.2.2.2.2.2.1=d6.length+i:=by rw [i4,aI,zY,te]
 have e7:len z.2.2.2.2.2.2.2.1=d7.length+i:=by rw [i5,aI,zY,List.length_replicate]
 refine .br (fun hb=>?_) fun hb=>.some ?_
 ·have hb:=eh.1 hb
  have hi:ae .i64 (i:Int) 1=((i+1:Nat):Int):=by rw [aU (by omega)];rfl
  refine .kS (fun y=>y.2.2.2.2.1=d6++BY cV d7.length (i+1)) (fun y hy=>?_) fun kk jA=>.br (fun e=>?_) fun e=>jA _ ?_
  ·have key:∀(ZE:T5) (j:Nat),aT ZE j=some ((ids d6.length (i+1)).map some)→Ok (gg (((ae .i64 (i:Int) 1),()),((),((),((),(cat d0 [(p,(fo,(some d1.length,(some d3.length,(some j,(none,0))))))],(ZE,(y.2.2.2.2.1,(cat z.2.2.2.2.2.2.2.1 [some (rep (α:=Int) 4 0)],()))))))))) (zp p cV c7 d0 d7):=by
    intro ZE j hT5
    refine ih (m-1) _ (by omega) ⟨i+1,some j,hi,by omega,rfl,hy,?_,.inr ⟨j,rfl,hT5⟩⟩
    show cat _ _=_
    rw [i5,List.replicate_succ',←List.append_assoc];rfl
   rcases i6 with ⟨rfl,rfl⟩ | ⟨th,rfl,Ut⟩
   ·refine .Ao rfl (.gd (by rw [dt,aI];show 1≤_;omega) (key _ (len z.2.2.2.2.2.1) ?_))
    rw [show (len z.2.2.2.2.2.1)=List.length z.2.2.2.2.2.1 from rfl,gz,e6]
    rfl
   ·refine .gC rfl (.gP Ut (.gd ?_ (.gd (by rw [bZ,aI];exact o9 Ut) (key _ (len (aS z.2.2.2.2.2.1 th none)) ?_))))
    ·rw [dt];show len ((ids d6.length i).map some)+1≤_;rw [aI,zH,mN];omega
    ·rw [show (len (aS z.2.2.2.2.2.1 th none))=List.length (aS z.2.2.2.2.2.1 th none) from rfl,gz,e6,Dm,List.map_append]
     rfl
  ·have e:=eh.1 e
   rw [gq] at e
   have ek:nN (i:Int)=i:=rfl
   have UG:i<cV.length:=by omega
   have pV:(cV[i]).length≤100:=by have:=(q2 _ (List.getElem_mem UG)).1;omega
   refine .gd (by rw [bF];omega) (.gd (by rw [bZ,aI,ek];exact UG) ?_)
   rw [ek,fy UG]
   refine .gP (TU pV) (jA _ ?_)
   show cat _ _=_
   rw [i4,e7,uU,←List.append_assoc]
   unfold OB
   rw [zA,zD UG]
   rfl
  ·have e:=gD.1 e
   rw [gq] at e
   show cat _ _=_
   rw [i4,e7,uU,←List.append_assoc]
   unfold OB
   rw [zA,zb (by omega)]
   rfl
 ·have hb:=gD.1 hb
  have hi:i=nt:=by omega
  subst hi
  rcases i6 with ⟨_,h0⟩ | ⟨th,rfl,Ut⟩
  ·omega
  have en:p.2.1.toNat=i:=by omega
  refine ⟨rfl,rfl,⟨d0.length,d1.length,d3.length,th,d2.length,ma,p,fo,ids d6.length i,ids d7.length i⟩,rfl,by rw [mN,en],?_⟩
  unfold NH
  rw [en]
  refine ⟨⟨none,?_,.inl ⟨rfl,rfl⟩⟩,v3,v4,hF,by show p.1≤100;omega,Ut,by rw [mN];exact n4,by rw [te,mN],by rw [List.length_replicate,mN],fun a b x h h'=>by have:=ub h;have:=ub h';omega,fun a b x h h'=>by have:=ub h;have:=ub h';omega,fun o ho=>(nomatch ho),?_⟩
  ·show (d0++[_])[d0.length]?=_;simp
  ·intro k t hk0
   dsimp only at hk0 ⊢
   obtain ⟨rfl,hk⟩:=wV hk0
   refine ⟨d6.length+k,d7.length+k,[0,0,0,0],yQ hk,?_,rfl,yQ hk,by rw [List.getElem?_replicate,if_pos hk],?_,rfl,?_⟩
   ·rw [i4,zJ (Nat.le_add_right _ _),Nat.add_sub_cancel_left]
    unfold BY
    rw [zL,List.getElem?_range hk];rfl
   ·rw [Ce,i5,zJ (Nat.le_add_right _ _),Nat.add_sub_cancel_left,List.getElem?_replicate,if_pos hk]
   ·have hm:∀l,cV[k]?=some l→l∈cV:=fun l h=>zG h
    have hg:cV.getD k []=[]∨cV.getD k []∈cV:=by
     rw [zA]
     cases h:cV[k]? with
     | none=>exact .inl rfl
     | some l=>exact .inr (hm l h)
    refine ⟨by show 0≤6;omega,?_,?_,fun h=>by cases h⟩
    ·show (cV.getD k []).length≤64
     rcases hg with h | h
     ·rw [h];exact Nat.zero_le _
     ·exact (q2 _ h).1
    ·show ∀c∈cV.getD k [],_
     rcases hg with h | h
     ·rw [h];intro c hc;cases hc
     ·exact (q2 _ h).2
open Go.Bm Go.oX
section
variable {n:Nat} {C:WC} {s:WS} {c5:T5} {D:Ds}
theorem TV {l:List Int} (hl:l.length≤1000000):g.ct l=some ((l,()),()):=by
 unfold g.ct
 rw [vZ (show bz (aK 0 (len l)) 16777216 by rw [dt,aI];show 0+_≤_;omega)]
 rfl
theorem EN (H:WI n C s c5 D) (mf:s.ops.length≤10000):Ok (g.dR C.wi D.1 D.2.1 D.2.2.1 D.2.2.2.1 D.2.2.2.2.1 c5 D.2.2.2.2.2.1 D.2.2.2.2.2.2.1 D.2.2.2.2.2.2.2.1 D.2.2.2.2.2.2.2.2.1) (fun r=>r.1.1=s.ops):=by
 obtain ⟨oo,hw,WM⟩:=H.world
 have e0:∀d,nth d D.1 C.wi=(C.p,(C.fo,(some C.a,(some C.gr,(some C.th,(oo,(s.st:Int))))))):=fun d=>bR hw
 have WA:=H.said
 unfold g.dR
 simp only [e0]
 refine .kS (fun z=>z.2.1.1=s.ops) (fun z hz=>?_) fun kk jA=>?_
 ·refine .loop (fun m y=>∃i:Nat,y.1.1=(i:Int)∧i+m=s.ops.length∧y.2.1.1=s.ops) (fun m y gg hI ih=>?_) (N:=s.ops.length) (by unfold lQ;omega) ⟨0,rfl,by omega,hz⟩
  obtain ⟨i,h1,h2,h3⟩:=hI
  unfold g.fM
  rw [hz,h1,h3,gq]
  refine .br (fun hb=>?_) fun hb=>.some rfl
  have hb:=eh.1 hb
  have ei:nN (i:Int)=i:=rfl
  have hi:i<s.ops.length:=by omega
  have en:∀d,nth d s.ops (nN (i:Int))=s.ops[i]:=fun d=>fy hi
  have hx:ae .i64 (i:Int) 1=((i+1:Nat):Int):=by rw [aU (by omega)];rfl
  have hg:bp (nN (i:Int)) (len s.ops):=by rw [bZ,aI,ei];exact hi
  simp only [en]
  have hs:=WA _ (List.getElem_mem hi)
  refine .gd (by rw [bF];omega) (.gd hg (.gP (TV (by omega)) (.gd (by rw [bF];omega) (.gd hg (ih (m-1) _ (by omega) ⟨i+1,hx,by omega,?_⟩)))))
  dsimp only
  rw [yb (show s.ops[nN (i:Int)]?=some s.ops[i] from zD hi)]
  exact List.set_getElem_self hi
 ·rcases WM with ⟨rfl,sc⟩ | ⟨jo,rfl,hj⟩
  ·exact .Ao rfl (jA _ sc.symm)
  ·exact .gC rfl (.gP hj (.gd (by rw [dt,aI];omega) (jA _ rfl)))
end
open Go.Bm
set_option maxRecDepth 1000000
set_option maxHeartbeats 0
def sg8:dO:=⟨[(true,(.pair (.pair (.int .i64) (.pair (.int .i64) (.pair (.int .i64) (.int .i64)))) (.pair (.aJ (.aJ (.pair (.int .u8) (.pair (.int .i64) (.int .i64))))) (.aJ (.aJ (.pair (.int .u8) (.pair (.int .u8) (.pair (.int .u8) (.pair (.int .u8) (.pair (.int .i64) (.pair (.int .i64) (.int .i64))))))))))))],[(true,(.pair (.int .i64) (.pair (.int .i64) (.pair (.int .i64) (.int .i64))))),(false,(.aJ (.aJ (.pair (.int .u8) (.pair (.int .i64) (.int .i64)))))),(false,(.aJ (.aJ (.pair (.int .u8) (.pair (.int .u8) (.pair (.int .u8) (.pair (.int .u8) (.pair (.int .i64) (.pair (.int .i64) (.int .i64))))))))))],[],[]⟩
def g.jl (a0:((Int×U4)×((List (List U4))×U6))) (v0:(((Int×U4)×Unit)×Unit)) (k:(((Int×Unit)×((U6×Unit)×pF))→(Option HD))) (s:((Int×Unit)×((U6×Unit)×pF))):(Option HD):=(br (aY s.1.1 (zN (len s.2.1.1))) (gd (bn s.1.1) (gd (bp (nN s.1.1) (len s.2.1.1)) (gd (bn s.1.1) (gd (bp (nN s.1.1) (len s.2.1.1)) (gd (bn (ly (zN (len (nth [] s.2.1.1 (nN s.1.1)))) 20)) (gd (bz 0 (nN (ly (zN (len (nth [] s.2.1.1 (nN s.1.1)))) 20))) (gd (bz (nN (ly (zN (len (nth [] s.2.1.1 (nN s.1.1)))) 20)) (len (nth [] s.2.1.1 (nN s.1.1)))) (gd (bn s.1.1) (gd (bp (nN s.1.1) (len s.2.1.1)) (k (((ae .i64 s.1.1 1),()),(((aj [] s.2.1.1 (nN s.1.1) (fun r0=>(tk (aw (nN (ly (zN (len r0)) 20)) 0) (dr 0 r0)))),()),((),((),())))))))))))))) (bd (g.gS a0.2.1) (fun p1=>(some ((v0.1.1,(p1.1.1,(s.2.1.1,()))),())))))
def g.jk (a0:((Int×U4)×((List (List U4))×U6))) (v0:(((Int×U4)×Unit)×Unit)) (v1:(Unit×((U6×Unit)×pF))→(Option HD)) (k:(((Int×Unit)×((U6×Unit)×pF))→(Option HD))) (s:((Int×Unit)×((U6×Unit)×pF))):(Option HD):=(jn (fun (k0:(Unit×U2)→_)=>(br (aY s.1.1 (zN (len a0.2.2))) (br (aY s.1.1 v0.1.1.2.1) (k0 ((),((),((),((),()))))) (v1 ((),((s.2.1.1,()),((),((),())))))) (v1 ((),((s.2.1.1,()),((),((),()))))))) (fun (s1:(Unit×U2))=>(gd (bn s.1.1) (gd (bp (nN s.1.1) (len a0.2.2)) (gd (bn s.1.1) (gd (bp (nN s.1.1) (len a0.2.2)) (gd (bn (ly (zN (len (nth [] a0.2.2 (nN s.1.1)))) 64)) (gd (bz 0 (nN (ly (zN (len (nth [] a0.2.2 (nN s.1.1)))) 64))) (gd (bz (nN (ly (zN (len (nth [] a0.2.2 (nN s.1.1)))) 64)) (len (nth [] a0.2.2 (nN s.1.1)))) (gd (bz (aK (len s.2.1.1) (len [(tk (aw (nN (ly (zN (len (nth [] a0.2.2 (nN s.1.1)))) 64)) 0) (dr 0 (nth [] a0.2.2 (nN s.1.1))))])) 16777216) (k (((ae .i64 s.1.1 1),()),(((cat s.2.1.1 [(tk (aw (nN (ly (zN (len (nth [] a0.2.2 (nN s.1.1)))) 64)) 0) (dr 0 (nth [] a0.2.2 (nN s.1.1))))]),()),((),((),())))))))))))))))
def g.gU (a0:((Int×U4)×((List (List U4))×U6))):(Option HD):=(bd (g.gT a0.1) (fun p0=>(jn (fun (k1:(Unit×((U6×Unit)×pF))→_)=>(loop (g.jk a0 p0 k1) ((0,()),(([],()),((),((),())))))) (fun (s6:(Unit×((U6×Unit)×pF)))=>(loop (g.jl a0 p0) ((0,()),((s6.2.1.1,()),((),((),())))))))))
def F8:Plain sg8:=fun x c d=>g.gU x.1
theorem ct8:bH Tryz.prog 8 sg8 F8:=b9 (ao Zt (ao Zr (aM))) fun x c d=>by kernel_rfl
open Go.Bm
def sg3:dO:=⟨[(true,(.pair (.pair (.int .i64) (.pair (.int .i64) (.pair (.int .i64) (.int .i64)))) (.pair (.aJ (.aJ (.pair (.int .u8) (.pair (.int .i64) (.int .i64))))) (.aJ (.aJ (.pair (.int .u8) (.pair (.int .u8) (.pair (.int .u8) (.pair (.int .u8) (.pair (.int .i64) (.pair (.int .i64) (.int .i64)))))))))))),(false,(.aJ (.int .u8)))],[(false,.bool)],[],[(0,R0),(1,R1),(2,R2),(3,R3),(4,R4),(5,R5),(6,R6),(7,R7),(8,R8),(9,R9)]⟩
def g.eH (a1:(List Int)) (v0:(((List U3)×Unit)×Unit)) (v1:TO) (v2:HD) (v3:U9→Fl) (k:(U9→Fl)) (s:U9):Fl:=(br (dn 0 s.1.1) (gd (bn s.1.1) (gd (bp (nN s.1.1) (len v0.1.1)) (br (ax (af (nth ko v0.1.1 (nN s.1.1)).1 (bO (cy .i64 (nth 0 a1 (nN v1.1.1))) v2.1.1.2.1))) (k (((aE .i64 s.1.1 1),()),((),((),((),()))))) (v3 ((s.1.1,()),((),((),((),())))))))) (v3 ((s.1.1,()),((),((),((),()))))))
def g.eG (a1:(List Int)) (v0:U8) (v1:HD) (v2:Nat) (k:(TO→Fl)) (s:TO):Fl:=(jn (fun (k0:(Unit×U2)→_)=>(br (aY s.1.1 (zN (len a1))) (br (aY s.1.1 300) (k0 ((),((),((),((),()))))) (some ((true,()),(s.2.2.2.2.1,(s.2.2.2.2.2.1,(s.2.2.2.2.2.2.1,(s.2.2.2.2.2.2.2.1,(s.2.2.2.2.2.2.2.2.1,(v0.2.2.2.2.2.2.1,s.2.2.2.2.2.2.2.2.2))))))))) (some ((true,()),(s.2.2.2.2.1,(s.2.2.2.2.2.1,(s.2.2.2.2.2.2.1,(s.2.2.2.2.2.2.2.1,(s.2.2.2.2.2.2.2.2.1,(v0.2.2.2.2.2.2.1,s.2.2.2.2.2.2.2.2.2)))))))))) (fun (s1:(Unit×U2))=>(gd (bn s.1.1) (gd (bp (nN s.1.1) (len a1)) (gd (E4 v1.1.1.2.1) (bd (g.bQ v2 (bO (cy .i64 (nth 0 a1 (nN s.1.1))) v1.1.1.2.1) v0.2.2.2.2.2.2.1 s.2.2.2.2.1 s.2.2.2.2.2.1 s.2.2.2.2.2.2.1 s.2.2.2.2.2.2.2.1 s.2.2.2.2.2.2.2.2.1 s.2.2.2.2.2.2.2.2.2.1 s.2.2.2.2.2.2.2.2.2.2.1 s.2.2.2.2.2.2.2.2.2.2.2.1 s.2.2.2.2.2.2.2.2.2.2.2.2.1) (fun p2=>(bd (g.dR v2 p2.2.1 p2.2.2.1 p2.2.2.2.1 p2.2.2.2.2.1 p2.2.2.2.2.2.1 v0.2.2.2.2.2.2.1 p2.2.2.2.2.2.2.1 p2.2.2.2.2.2.2.2.1 p2.2.2.2.2.2.2.2.2.1 p2.2.2.2.2.2.2.2.2.2.1) (fun p3=>(jn (fun (k4:U9→_)=>(loop (g.eH a1 p3 s v1 k4) (((aE .i64 (zN (len p3.1.1)) 1),()),((),((),((),())))))) (fun (s5:U9)=>(jn (fun (k6:(Unit×U2)→_)=>(br (ax (af p2.1.2.1 0)) (k (((ae .i64 s.1.1 1),()),((),((),(((s.2.2.2.1.1.1,(s.2.2.2.1.1.2.1,(s.2.2.2.1.1.2.2.1,(s.2.2.2.1.1.2.2.2.1,())))),()),p2.2))))) (br (aY s5.1.1 0) (k (((ae .i64 s.1.1 1),()),((),((),(((s.2.2.2.1.1.1,(s.2.2.2.1.1.2.1,(s.2.2.2.1.1.2.2.1,(s.2.2.2.1.1.2.2.2.1,())))),()),p2.2))))) (k6 ((),((),((),((),())))))))) (fun (s7:(Unit×U2))=>(jn (fun (k8:JT→_)=>(br (af (bO (cy .i64 (nth 0 a1 (nN s.1.1))) v1.1.1.2.1) 0) (br (af (bO (cy .i64 (nth 0 a1 (nN s.1.1))) v1.1.1.2.1) 0) (k8 ((),((),((),((((ae .i64 s.2.2.2.1.1.1 1),(s.2.2.2.1.1.2.1,(s.2.2.2.1.1.2.2.1,(s.2.2.2.1.1.2.2.2.1,())))),()),()))))) (br (af (bO (cy .i64 (nth 0 a1 (nN s.1.1))) v1.1.1.2.1) 1) (k8 ((),((),((),(((s.2.2.2.1.1.1,((ae .i64 s.2.2.2.1.1.1 1),(s.2.2.2.1.1.2.2.1,(s.2.2.2.1.1.2.2.2.1,())))),()),()))))) (br (af (bO (cy .i64 (nth 0 a1 (nN s.1.1))) v1.1.1.2.1) 2) (k8 ((),((),((),(((s.2.2.2.1.1.1,(s.2.2.2.1.1.2.1,((ae .i64 s.2.2.2.1.1.1 1),(s.2.2.2.1.1.2.2.2.1,())))),()),()))))) (br (af (bO (cy .i64 (nth 0 a1 (nN s.1.1))) v1.1.1.2.1) 3) (k8 ((),((),((),(((s.2.2.2.1.1.1,(s.2.2.2.1.1.2.1,(s.2.2.2.1.1.2.2.1,((ae .i64 s.2.2.2.1.1.1 1),())))),()),()))))) none)))) (br (af (bO (cy .i64 (nth 0 a1 (nN s.1.1))) v1.1.1.2.1) 1) (br (af (bO (cy .i64 (nth 0 a1 (nN s.1.1))) v1.1.1.2.1) 0) (k8 ((),((),((),((((ae .i64 s.2.2.2.1.1.2.1 1),(s.2.2.2.1.1.2.1,(s.2.2.2.1.1.2.2.1,(s.2.2.2.1.1.2.2.2.1,())))),()),()))))) (br (af (bO (cy .i64 (nth 0 a1 (nN s.1.1))) v1.1.1.2.1) 1) (k8 ((),((),((),(((s.2.2.2.1.1.1,((ae .i64 s.2.2.2.1.1.2.1 1),(s.2.2.2.1.1.2.2.1,(s.2.2.2.1.1.2.2.2.1,())))),()),()))))) (br (af (bO (cy .i64 (nth 0 a1 (nN s.1.1))) v1.1.1.2.1) 2) (k8 ((),((),((),(((s.2.2.2.1.1.1,(s.2.2.2.1.1.2.1,((ae .i64 s.2.2.2.1.1.2.1 1),(s.2.2.2.1.1.2.2.2.1,())))),()),()))))) (br (af (bO (cy .i64 (nth 0 a1 (nN s.1.1))) v1.1.1.2.1) 3) (k8 ((),((),((),(((s.2.2.2.1.1.1,(s.2.2.2.1.1.2.1,(s.2.2.2.1.1.2.2.1,((ae .i64 s.2.2.2.1.1.2.1 1),())))),()),()))))) none)))) (br (af (bO (cy .i64 (nth 0 a1 (nN s.1.1))) v1.1.1.2.1) 2) (br (af (bO (cy .i64 (nth 0 a1 (nN s.1.1))) v1.1.1.2.1) 0) (k8 ((),((),((),((((ae .i64 s.2.2.2.1.1.2.2.1 1),(s.2.2.2.1.1.2.1,(s.2.2.2.1.1.2.2.1,(s.2.2.2.1.1.2.2.2.1,())))),()),()))))) (br (af (bO (cy .i64 (nth 0 a1 (nN s.1.1))) v1.1.1.2.1) 1) (k8 ((),((),((),(((s.2.2.2.1.1.1,((ae .i64 s.2.2.2.1.1.2.2.1 1),(s.2.2.2.1.1.2.2.1,(s.2.2.2.1.1.2.2.2.1,())))),()),()))))) (br (af (bO (cy .i64 (nth 0 a1 (nN s.1.1))) v1.1.1.2.1) 2) (k8 ((),((),((),(((s.2.2.2.1.1.1,(s.2.2.2.1.1.2.1,((ae .i64 s.2.2.2.1.1.2.2.1 1),(s.2.2.2.1.1.2.2.2.1,())))),()),()))))) (br (af (bO (cy .i64 (nth 0 a1 (nN s.1.1))) v1.1.1.2.1) 3) (k8 ((),((),((),(((s.2.2.2.1.1.1,(s.2.2.2.1.1.2.1,(s.2.2.2.1.1.2.2.1,((ae .i64 s.2.2.2.1.1.2.2.1 1),())))),()),()))))) none)))) (br (af (bO (cy .i64 (nth 0 a1 (nN s.1.1))) v1.1.1.2.1) 3) (br (af (bO (cy .i64 (nth 0 a1 (nN s.1.1))) v1.1.1.2.1) 0) (k8 ((),((),((),((((ae .i64 s.2.2.2.1.1.2.2.2.1 1),(s.2.2.2.1.1.2.1,(s.2.2.2.1.1.2.2.1,(s.2.2.2.1.1.2.2.2.1,())))),()),()))))) (br (af (bO (cy .i64 (nth 0 a1 (nN s.1.1))) v1.1.1.2.1) 1) (k8 ((),((),((),(((s.2.2.2.1.1.1,((ae .i64 s.2.2.2.1.1.2.2.2.1 1),(s.2.2.2.1.1.2.2.1,(s.2.2.2.1.1.2.2.2.1,())))),()),()))))) (br (af (bO (cy .i64 (nth 0 a1 (nN s.1.1))) v1.1.1.2.1) 2) (k8 ((),((),((),(((s.2.2.2.1.1.1,(s.2.2.2.1.1.2.1,((ae .i64 s.2.2.2.1.1.2.2.2.1 1),(s.2.2.2.1.1.2.2.2.1,())))),()),()))))) (br (af (bO (cy .i64 (nth 0 a1 (nN s.1.1))) v1.1.1.2.1) 3) (k8 ((),((),((),(((s.2.2.2.1.1.1,(s.2.2.2.1.1.2.1,(s.2.2.2.1.1.2.2.1,((ae .i64 s.2.2.2.1.1.2.2.2.1 1),())))),()),()))))) none)))) none))))) (fun (s9:JT)=>(gd (bn s5.1.1) (gd (bp (nN s5.1.1) (len p3.1.1)) (jn (fun (Wi:(Unit×U2)→_)=>(br (aY (nth ko p3.1.1 (nN s5.1.1)).2.2.2.2.1 0) (k (((ae .i64 s.1.1 1),()),((),((),(((s9.2.2.2.1.1.1,(s9.2.2.2.1.1.2.1,(s9.2.2.2.1.1.2.2.1,(s9.2.2.2.1.1.2.2.2.1,())))),()),p2.2))))) (Wi ((),((),((),((),()))))))) (fun (aH:(Unit×U2))=>(jn (fun (Jn:U9→_)=>(br (af (bO (cy .i64 (nth 0 a1 (nN s.1.1))) v1.1.1.2.1) 0) (Jn ((s9.2.2.2.1.1.1,()),((),((),((),()))))) (br (af (bO (cy .i64 (nth 0 a1 (nN s.1.1))) v1.1.1.2.1) 1) (Jn ((s9.2.2.2.1.1.2.1,()),((),((),((),()))))) (br (af (bO (cy .i64 (nth 0 a1 (nN s.1.1))) v1.1.1.2.1) 2) (Jn ((s9.2.2.2.1.1.2.2.1,()),((),((),((),()))))) (br (af (bO (cy .i64 (nth 0 a1 (nN s.1.1))) v1.1.1.2.1) 3) (Jn ((s9.2.2.2.1.1.2.2.2.1,()),((),((),((),()))))) none))))) (fun (yi:U9)=>(jn (fun (qi:JT→_)=>(br (af (bO (cy .i64 (nth 0 a1 (nN s.1.1))) v1.1.1.2.1) 0) (qi ((),((),((),(((0,(s9.2.2.2.1.1.2.1,(s9.2.2.2.1.1.2.2.1,(s9.2.2.2.1.1.2.2.2.1,())))),()),()))))) (br (af (bO (cy .i64 (nth 0 a1 (nN s.1.1))) v1.1.1.2.1) 1) (qi ((),((),((),(((s9.2.2.2.1.1.1,(0,(s9.2.2.2.1.1.2.2.1,(s9.2.2.2.1.1.2.2.2.1,())))),()),()))))) (br (af (bO (cy .i64 (nth 0 a1 (nN s.1.1))) v1.1.1.2.1) 2) (qi ((),((),((),(((s9.2.2.2.1.1.1,(s9.2.2.2.1.1.2.1,(0,(s9.2.2.2.1.1.2.2.2.1,())))),()),()))))) (br (af (bO (cy .i64 (nth 0 a1 (nN s.1.1))) v1.1.1.2.1) 3) (qi ((),((),((),(((s9.2.2.2.1.1.1,(s9.2.2.2.1.1.2.1,(s9.2.2.2.1.1.2.2.1,(0,())))),()),()))))) none))))) (fun (Ub:JT)=>(jn (fun (k16:iu→_)=>(k16 ((true,()),((),((),((),())))))) (fun (Ma:iu)=>(jn (fun (j9:iu→_)=>(jn (fun (Me:iu→_)=>(br (af (nth ko p3.1.1 (nN s5.1.1)).2.1.1 4) (Me ((true,()),((),((),((),()))))) (Me (((af (nth ko p3.1.1 (nN s5.1.1)).2.1.1 5),()),((),((),((),()))))))) (fun (s20:iu)=>(br s20.1.1 (j9 ((Ma.1.1,()),((),((),((),()))))) (br (af (nth ko p3.1.1 (nN s5.1.1)).2.1.1 7) (br (af yi.1.1 4) (br (ax (af (nth ko p3.1.1 (nN s5.1.1)).2.2.2.2.2.1 1)) (j9 ((true,()),((),((),((),()))))) (br (af yi.1.1 1) (j9 (((af (nth ko p3.1.1 (nN s5.1.1)).2.2.2.2.2.1 1),()),((),((),((),()))))) (j9 ((false,()),((),((),((),()))))))) (br (af yi.1.1 1) (j9 (((af (nth ko p3.1.1 (nN s5.1.1)).2.2.2.2.2.1 1),()),((),((),((),()))))) (j9 ((false,()),((),((),((),()))))))) (br (af (nth ko p3.1.1 (nN s5.1.1)).2.1.1 8) (br (af yi.1.1 3) (j9 ((true,()),((),((),((),()))))) (br (aY yi.1.1 3) (j9 (((ax (af (nth ko p3.1.1 (nN s5.1.1)).2.2.2.2.2.1 0)),()),((),((),((),()))))) (j9 ((false,()),((),((),((),()))))))) (br (af (nth ko p3.1.1 (nN s5.1.1)).2.1.1 9) (br (af yi.1.1 3) (j9 ((true,()),((),((),((),()))))) (br (af yi.1.1 5) (j9 ((true,()),((),((),((),()))))) (br (aY yi.1.1 5) (j9 (((ax (af (nth ko p3.1.1 (nN s5.1.1)).2.2.2.2.2.1 0)),()),((),((),((),()))))) (j9 ((false,()),((),((),((),())))))))) (br (af (nth ko p3.1.1 (nN s5.1.1)).2.1.1 11) (br (af yi.1.1 1) (j9 ((true,()),((),((),((),()))))) (br (af yi.1.1 3) (j9 ((true,()),((),((),((),()))))) (br (af yi.1.1 2) (j9 (((ax (af (nth ko p3.1.1 (nN s5.1.1)).2.2.2.2.2.1 0)),()),((),((),((),()))))) (j9 ((false,()),((),((),((),())))))))) (j9 (((af yi.1.1 1),()),((),((),((),()))))))))))))) (fun (Bz:iu)=>(br (ax Bz.1.1) (some ((false,()),(p2.2.1,(p2.2.2.1,(p2.2.2.2.1,(p2.2.2.2.2.1,(p2.2.2.2.2.2.1,(v0.2.2.2.2.2.2.1,p2.2.2.2.2.2.2)))))))) (k (((ae .i64 s.1.1 1),()),((),((),(((Ub.2.2.2.1.1.1,(Ub.2.2.2.1.1.2.1,(Ub.2.2.2.1.1.2.2.1,(Ub.2.2.2.1.1.2.2.2.1,())))),()),p2.2)))))))))))))))))))))))))))))))))
def g.jU (a1:(List Int)) (v0:U8) (v1:HD) (k:(TO→Fl)) (s:TO):Fl:=(jn (fun (k0:(Unit×U2)→_)=>(br (aY s.1.1 (zN (len a1))) (br (aY s.1.1 300) (k0 ((),((),((),((),()))))) (some ((true,()),(s.2.2.2.2.1,(s.2.2.2.2.2.1,(s.2.2.2.2.2.2.1,(s.2.2.2.2.2.2.2.1,(s.2.2.2.2.2.2.2.2.1,(v0.2.2.2.2.2.2.1,s.2.2.2.2.2.2.2.2.2))))))))) (some ((true,()),(s.2.2.2.2.1,(s.2.2.2.2.2.1,(s.2.2.2.2.2.2.1,(s.2.2.2.2.2.2.2.1,(s.2.2.2.2.2.2.2.2.1,(v0.2.2.2.2.2.2.1,s.2.2.2.2.2.2.2.2.2)))))))))) (fun (s1:(Unit×U2))=>(gd (bn s.1.1) (gd (bp (nN s.1.1) (len a1)) (gd (E4 v1.1.1.2.1) none)))))
def g.fp (a0:((Int×U4)×((List (List U4))×U6))) (a1:(List Int)) (d0:T0) (d1:T1) (d2:T2) (d3:T3) (d4:T4) (d5:T5) (d6:T6) (d7:T7) (d8:T2) (d9:T9):Fl:=(bd (g.cq d0 d1 d2 d3 d4 d5 d6 d7 d8 d9) (fun p0=>(bd (g.gU a0) (fun p1=>(bd (g.iC p1.1.1 p1.1.2.1 p1.1.2.2.1 p0.2.2.2.2.2.2.2.2.1 p0.2.1 p0.2.2.1 p0.2.2.2.1 p0.2.2.2.2.1 p0.2.2.2.2.2.1 p0.2.2.2.2.2.2.1 p0.2.2.2.2.2.2.2.1 p0.2.2.2.2.2.2.2.2.2.1 p0.2.2.2.2.2.2.2.2.2.2.1) (fun p2=>(opt p2.1.1 (jn (fun (k3:(Unit×U2)→_)=>(br (ax p0.1.1) (some ((false,()),(p2.2.1,(p2.2.2.1,(p2.2.2.2.1,(p2.2.2.2.2.1,(p2.2.2.2.2.2.1,(p2.2.2.2.2.2.2.1,(p2.2.2.2.2.2.2.2.1,(p0.2.2.2.2.2.2.2.2.1,(p2.2.2.2.2.2.2.2.2.1,(p2.2.2.2.2.2.2.2.2.2.1,())))))))))))) (some ((false,()),(p2.2.1,(p2.2.2.1,(p2.2.2.2.1,(p2.2.2.2.2.1,(p2.2.2.2.2.2.1,(p2.2.2.2.2.2.2.1,(p2.2.2.2.2.2.2.2.1,(p0.2.2.2.2.2.2.2.2.1,(p2.2.2.2.2.2.2.2.2.1,(p2.2.2.2.2.2.2.2.2.2.1,())))))))))))))) (fun (s4:(Unit×U2))=>(loop (g.jU a1 p2 p1) ((0,()),((),((),(((0,(0,(0,(0,())))),()),(p2.2.1,(p2.2.2.1,(p2.2.2.2.1,(p2.2.2.2.2.1,(p2.2.2.2.2.2.1,(p2.2.2.2.2.2.2.2.1,(p0.2.2.2.2.2.2.2.2.1,(p2.2.2.2.2.2.2.2.2.1,(p2.2.2.2.2.2.2.2.2.2.1,())))))))))))))))) (fun p9=>(jn (fun (Wi:(Unit×U2)→_)=>(br (ax p0.1.1) (some ((false,()),(p2.2.1,(p2.2.2.1,(p2.2.2.2.1,(p2.2.2.2.2.1,(p2.2.2.2.2.2.1,(p2.2.2.2.2.2.2.1,(p2.2.2.2.2.2.2.2.1,(p0.2.2.2.2.2.2.2.2.1,(p2.2.2.2.2.2.2.2.2.1,(p2.2.2.2.2.2.2.2.2.2.1,())))))))))))) (br (ax (af p2.1.2.1 0)) (some ((false,()),(p2.2.1,(p2.2.2.1,(p2.2.2.2.1,(p2.2.2.2.2.1,(p2.2.2.2.2.2.1,(p2.2.2.2.2.2.2.1,(p2.2.2.2.2.2.2.2.1,(p0.2.2.2.2.2.2.2.2.1,(p2.2.2.2.2.2.2.2.2.1,(p2.2.2.2.2.2.2.2.2.2.1,())))))))))))) (Wi ((),((),((),((),())))))))) (fun (aH:(Unit×U2))=>(loop (g.eG a1 p2 p1 p9) ((0,()),((),((),(((0,(0,(0,(0,())))),()),(p2.2.1,(p2.2.2.1,(p2.2.2.2.1,(p2.2.2.2.2.1,(p2.2.2.2.2.2.1,(p2.2.2.2.2.2.2.2.1,(p0.2.2.2.2.2.2.2.2.1,(p2.2.2.2.2.2.2.2.2.1,(p2.2.2.2.2.2.2.2.2.2.1,()))))))))))))))))))))))))
def F3:Plain sg3:=fun x c d=>g.fp x.1 x.2.1 d.1 d.2.1 d.2.2.1 d.2.2.2.1 d.2.2.2.2.1 d.2.2.2.2.2.1 d.2.2.2.2.2.2.1 d.2.2.2.2.2.2.2.1 d.2.2.2.2.2.2.2.2.1 d.2.2.2.2.2.2.2.2.2.1
theorem ct3:bH Tryz.prog 3 sg3 F3:=b9 (ao ct7 (ao ct8 (ao ct9 (ao TF (ao TA (aM)))))) fun x c d=>by kernel_rfl
open Go.Bm Go.oX
def Hd (p:mE):mE:=(1+p.1%8,(1+p.2.1%4,(8*(p.2.2.1%64),8*(p.2.2.2%128))))
theorem xF (p:mE):eM (Hd p)=true:=by
 rw [fa];unfold Hd;simp only;omega
theorem vg (p:mE):g.gT p=some ((Hd p,()),()):=by
 unfold g.gT
 rw [kr 3 (by omega) (by decide),kr 2 (by omega) (by decide),kr 6 (by omega) (by decide),kr 7 (by omega) (by decide)]
 rw [aU (by omega),aU (by omega),dc (by omega),dc (by omega)]
 rfl
def oG (o:oQ):oQ:=
 if o.1%5=0 then (o.1%5,(o.2.1%64,0)) else if o.1%5=1 then (o.1%5,(o.2.1%8%6,0)) else if o.1%5=2 then (o.1%5,(o.2.1%8%6,o.2.2%8%6))
 else if o.1%5=3 then (o.1%5,(o.2.1%8%6,o.2.2%8)) else (o.1%5,(0,0))
def kD (l:List oQ):List oQ:=(l.take 8).map oG
def A8 (f:List (List oQ)):List (List oQ):=(f.take 8).map kD
theorem v8 (o:oQ):mK (oG o):=by
 have e0:o.1%5=0∨o.1%5=1∨o.1%5=2∨o.1%5=3∨o.1%5=4:=by omega
 unfold oG
 rcases e0 with h | h | h | h | h
 ·rw [if_pos h];refine .inl ⟨h,?_,?_,rfl⟩<;>dsimp only<;>omega
 ·rw [if_neg (by omega),if_pos h];refine .inr (.inl ⟨h,?_,?_,rfl⟩)<;>dsimp only<;>omega
 ·rw [if_neg (by omega),if_neg (by omega),if_pos h];refine .inr (.inr (.inl ⟨h,?_,?_,?_,?_⟩))<;>dsimp only<;>omega
 ·rw [if_neg (by omega),if_neg (by omega),if_neg (by omega),if_pos h];refine .inr (.inr (.inr (.inl ⟨h,?_,?_,?_,?_⟩)))<;>dsimp only<;>omega
 ·rw [if_neg (by omega),if_neg (by omega),if_neg (by omega),if_neg (by omega)];exact .inr (.inr (.inr (.inr ⟨h,rfl,rfl⟩)))
theorem xH (f:List (List oQ)):iI (A8 f):=by
 refine ⟨by unfold A8;simp;omega,fun l hl=>?_⟩
 obtain ⟨l',_,rfl⟩:=List.mem_map.1 hl
 refine ⟨by unfold kD;simp;omega,fun o ho=>?_⟩
 obtain ⟨o',_,rfl⟩:=List.mem_map.1 ho
 exact v8 o'
theorem m7 {α β:Type} (f:α→β) {l:List α} {k:Nat} (hk:k<l.length):(l.take (k+1)).map f=(l.take k).map f++[f l[k]]:=by
 rw [List.take_add_one,zD hk,List.map_append];rfl
abbrev ZH:Type:=((Int×Unit)×(((List (List oQ))×Unit)×(Unit×(Unit×Unit))))
theorem Lh {f:List (List oQ)} (mf:∀l∈f,∀o∈l,0≤o.1) {i:Nat} (hi:i<f.length) (hi8:i<8) {out:List (List oQ)} (ho:out.length=i) (v1:ZH→Option (((List (List oQ))×Unit)×Unit)) :
  loop (g.fk f (((i:Int),()),((out,()),((),((),())))) v1) ((0,()),(([],()),((),((),()))))=v1 ((((i+1:Nat):Int),()),(((out++[kD f[i]]),()),((),((),())))):=by
 have hff:nth [] f (nN (i:Int))=f[i]:=fy hi
 have ei:ae IntKind.i64 (i:Int) 1=((i+1:Nat):Int):=by rw [aU (by omega)];omega
 generalize hl:f[i]=l at *
 have mf:=mf l (by rw [←hl];exact List.getElem_mem hi)
 refine (lu (fun k=>((((k:Nat):Int),()),((((l.take k).map oG,()),((),((),())))))) (fun _=>v1 ((((i+1:Nat):Int),()),(((out++[kD l]),()),((),((),()))))) (min l.length 8) (by unfold lQ;omega) (fun K=>?_) (fun k hk=>.inr ⟨rfl,fun K=>?_⟩))
 ·have e8:(l.take (min l.length 8)).map oG=kD l:=by
   unfold kD
   by_cases h:l.length≤8
   ·rw [Nat.min_eq_left h,List.take_length,za h]
   ·rw [Nat.min_eq_right (by omega)]
  rw [e8]
  unfold g.fk
  dsimp only
  rw [hff]
  by_cases h:l.length≤8
  ·rw [Nat.min_eq_left h]
   repeat refine HS ?_
   rw [ei];rfl
  ·rw [Nat.min_eq_right (by omega)]
   repeat refine HS ?_
   rw [ei];rfl
 ·have h1:k<l.length:=by omega
  have h2:k<8:=by omega
  have e:∀d,nth d l (nN (k:Int))=l[k]:=fun d=>fy h1
  have h0:=mf l[k] (List.getElem_mem h1)
  have ek:ae IntKind.i64 (k:Int) 1=((k+1:Nat):Int):=by rw [aU (by omega)];omega
  have hlen:((l.take k).map oG).length=k:=by simp;omega
  rw [m7 oG h1]
  generalize (l.take k).map oG=p at *
  unfold g.fk
  dsimp only
  rw [hff,e]
  generalize l[k]=o at *
  have er:bO o.1 5=o.1%5:=cO h0
  have eA:bits BinOp.and IntKind.i64 o.2.1 63=o.2.1%64:=kr 6 (by omega) (by decide)
  have eB:bits BinOp.and IntKind.i64 o.2.1 7=o.2.1%8:=kr 3 (by omega) (by decide)
  have eC:bits BinOp.and IntKind.i64 o.2.2 7=o.2.2%8:=kr 3 (by omega) (by decide)
  have eD:bO (o.2.1%8) 6=o.2.1%8%6:=cO (by omega)
  have eE:bO (o.2.2%8) 6=o.2.2%8%6:=cO (by omega)
  rw [er,eA,eB,eC,eD,eE,ek]
  unfold oG
  by_cases c0:o.1%5=0
  ·rw [if_pos c0]
   repeat refine HS ?_
   rfl
  rw [if_neg c0]
  by_cases c1:o.1%5=1
  ·rw [if_pos c1]
   repeat refine HS ?_
   rfl
  rw [if_neg c1]
  by_cases c2:o.1%5=2
  ·rw [if_pos c2]
   repeat refine HS ?_
   rfl
  rw [if_neg c2]
  by_cases c3:o.1%5=3
  ·rw [if_pos c3]
   repeat refine HS ?_
   rfl
  rw [if_neg c3]
  repeat refine HS ?_
  rfl
theorem vf {f:List (List oQ)} (mf:∀l∈f,∀o∈l,0≤o.1):g.gS f=some ((A8 f,()),()):=by
 unfold g.gS
 refine (lu (fun k=>((((k:Nat):Int),()),((((f.take k).map kD,()),((),((),())))))) (fun _=>some ((A8 f,()),())) (min f.length 8) (by unfold lQ;omega) (fun K=>?_) (fun k hk=>.inr ⟨rfl,fun K=>?_⟩))
 ·have e8:(f.take (min f.length 8)).map kD=A8 f:=by
   unfold A8
   by_cases h:f.length≤8
   ·rw [Nat.min_eq_left h,List.take_length,za h]
   ·rw [Nat.min_eq_right (by omega)]
  rw [e8]
  unfold g.gX
  dsimp only
  by_cases h:f.length≤8
  ·rw [Nat.min_eq_left h]
   by_cases h8:f.length=8
   ·repeat refine HS ?_
    rfl
   ·repeat refine HS ?_
    rfl
  ·rw [Nat.min_eq_right (by omega)]
   repeat refine HS ?_
   rfl
 ·have h1:k<f.length:=by omega
  have h2:k<8:=by omega
  have hlen:((f.take k).map kD).length=k:=by simp;omega
  rw [m7 kD h1]
  unfold g.gX
  dsimp only
  repeat refine HS ?_
  exact Lh mf h1 h2 hlen K
def pD (l:List lY):Prop:=∀c∈l,0≤c.2.1∧0≤c.2.2.1∧0≤c.2.2.2.1
theorem yJ (a b:Int):ly a b≤a∧ly a b≤b:=by unfold ly;split<;>omega
theorem yK {a b:Int} (h:0≤a) (h2:0≤b):0≤ly a b:=by unfold ly;split<;>omega
theorem BZ {α:Type} {x:α} {n:Nat} {l:List α} (h:x∈tk n (dr 0 l)):x∈l:=by
 have h:x∈List.take n (List.drop 0 l):=h
 rw [List.drop_zero] at h
 exact List.mem_of_mem_take h
theorem Lg (a:mE×(List (List oQ)×List (List lY))) (mf:∀l∈a.2.1,∀o∈l,0≤o.1) (vR:∀l∈a.2.2,pD l):Ok (g.gU a) (fun r=>eM r.1.1=true∧iI r.1.2.1∧tH r.1.1 r.1.2.2.1):=by
 unfold g.gU
 have hp:=xF a.1
 have Uz:=fa.1 hp
 refine .gP (vg a.1) ?_
 generalize Hd a.1=p at *
 refine .kS (fun s=>(s.2.1.1.length:Int)≤p.2.1∧∀l∈s.2.1.1,l.length≤64∧pD l) (fun s hs=>?_) fun kk jA=>?_
 ·obtain ⟨s1,s2⟩:=hs
  refine .loop (fun m z=>∃k:Nat,z.1.1=(k:Int)∧z.2.1.1.length=s.2.1.1.length∧k+m=s.2.1.1.length∧∀l∈z.2.1.1,l.length≤64∧pD l) (fun m z gg hI ih=>?_) (N:=s.2.1.1.length) (by unfold lQ;omega) ⟨0,rfl,rfl,by omega,s2⟩
  obtain ⟨k,h1,h2,h3,h4⟩:=hI
  unfold g.jl
  rw [h1,gq]
  have ek:nN (k:Int)=k:=rfl
  refine .br (fun hb=>?_) fun hb=>?_
  ·have hb:=eh.1 hb
   have hk:k<z.2.1.1.length:=by omega
   have hg:bp (nN (k:Int)) (len z.2.1.1):=by rw [bZ,aI,ek];exact hk
   have en:∀d,nth d z.2.1.1 (nN (k:Int))=z.2.1.1[k]:=fun d=>fy hk
   have hx:ae .i64 (k:Int) 1=((k+1:Nat):Int):=by rw [aU (by omega)];rfl
   have hl:=h4 _ (List.getElem_mem hk)
   have hm:=yJ (zN (len z.2.1.1[k])) 20
   have vT:0≤ly (zN (len z.2.1.1[k])) 20:=yK (by rw [gq];omega) (by omega)
   simp only [en]
   refine .gd (by rw [bF];omega) (.gd hg (.gd (by rw [bF];omega) (.gd hg (.gd (by rw [bF];exact vT) (.gd (by rw [dt];exact Nat.zero_le _) (.gd ?_ (.gd (by rw [bF];omega) (.gd hg (ih (m-1) _ (by omega) ⟨k+1,hx,?_,by omega,?_⟩)))))))))
   ·rw [gq] at hm ⊢
    rw [dt,dg,aI];omega
   ·show (aj _ _ _ _).length=_
    rw [yb (show z.2.1.1[nN (k:Int)]?=some z.2.1.1[k] from zD hk),zM];exact h2
   ·show ∀l∈aj _ _ _ _,_
    rw [yb (show z.2.1.1[nN (k:Int)]?=some z.2.1.1[k] from zD hk)]
    intro l UE
    rcases List.mem_or_eq_of_mem_set UE with h | rfl
    ·exact h4 l h
    ·refine ⟨?_,fun c hc=>hl.2 c (BZ hc)⟩
     show (List.take _ (List.drop 0 _)).length≤64
     rw [List.length_take,List.drop_zero];omega
  ·refine .gP (vf mf) (.some ⟨hp,xH _,?_,h4⟩)
   show (z.2.1.1.length:Int)≤p.2.1
   rw [h2];exact s1
 ·refine .loop (fun m z=>∃k:Nat,z.1.1=(k:Int)∧z.2.1.1.length=k∧(k:Int)≤p.2.1∧(k:Int)+m=p.2.1∧∀l∈z.2.1.1,l.length≤64∧pD l) (fun m z gg hI ih=>?_) (N:=p.2.1.toNat) (by unfold lQ;omega) ⟨0,rfl,rfl,by omega,by omega,fun l h=>nomatch h⟩
  obtain ⟨k,h1,h2,h3,h4,h5⟩:=hI
  have fin:∀b:Int×(Unit×(Unit×Unit)),Ok (kk ((),((z.2.1.1,()),((),((),()))))) (fun r=>eM r.1.1=true∧iI r.1.2.1∧tH r.1.1 r.1.2.2.1):=fun _=>jA _ ⟨by show (z.2.1.1.length:Int)≤p.2.1;rw [h2];exact h3,h5⟩
  unfold g.jk
  rw [h1]
  refine .kS (fun _=>(k:Int)<p.2.1∧k<a.2.2.length) (fun s hs=>?_) fun kk2 WZ=>.br (fun e=>.br (fun e2=>WZ _ ⟨eh.1 e2,by have:=eh.1 e;rw [gq] at this;omega⟩) fun _=>fin (0,((),((),())))) fun _=>fin (0,((),((),())))
  obtain ⟨KS,hs⟩:=hs
  have ek:nN (k:Int)=k:=rfl
  have hg:bp (nN (k:Int)) (len a.2.2):=by rw [bZ,aI,ek];exact hs
  have en:∀d,nth d a.2.2 (nN (k:Int))=a.2.2[k]:=fun d=>fy hs
  have hx:ae .i64 (k:Int) 1=((k+1:Nat):Int):=by rw [aU (by omega)];rfl
  have hm:=yJ (zN (len a.2.2[k])) 64
  have vT:0≤ly (zN (len a.2.2[k])) 64:=yK (by rw [gq];omega) (by omega)
  simp only [en]
  refine .gd (by rw [bF];omega) (.gd hg (.gd (by rw [bF];omega) (.gd hg (.gd (by rw [bF];exact vT) (.gd (by rw [dt];exact Nat.zero_le _) (.gd ?_ (.gd ?_ (ih (m-1) _ (by omega) ⟨k+1,hx,?_,by omega,by omega,?_⟩))))))))
  ·rw [gq] at hm ⊢
   rw [dt,dg,aI];omega
  ·rw [dt];show len z.2.1.1+1≤_;rw [aI];omega
  ·show (z.2.1.1++[_]).length=_
   rw [zY,h2];rfl
  ·intro l hl
   rcases zX.1 hl with h | h
   ·exact h5 l h
   ·rw [zF] at h
    subst h
    refine ⟨?_,fun c hc=>vR _ (List.getElem_mem hs) c (BZ hc)⟩
    show (List.take _ (List.drop 0 _)).length≤64
    rw [List.length_take,List.drop_zero]
    have:aw (nN (ly (zN (len a.2.2[k])) 64)) 0≤64:=by show nN _-0≤64;rw [dg];omega
    omega
open Go.Bm Go.oX
abbrev Op.from (o:oY):Int:=o.2.2.1
abbrev Op.key (o:oY):Int×lY:=(o.1,o.2.1)
def keys (l:List oY):List (Int×lY):=l.map Op.key
def sj (l:List (Int×lY)) (k:Int):Nat:=(l.filter (fun x=>decide (x.1=k))).length
theorem sW (l:List (Int×lY)) (x:Int×lY) (k:Int):sj (l++[x]) k=sj l k+(if x.1=k then 1 else 0):=by
 unfold sj
 rw [List.filter_append,zY]
 by_cases h:x.1=k
 ·rw [if_pos h,List.filter_cons_of_pos (by simpa using h)];rfl
 ·rw [if_neg h,List.filter_cons_of_neg (by simpa using h)];rfl
theorem Da {l:List oY} {q:Nat} {o o':oY} (h:l[q]?=some o) (he:Op.key o'=Op.key o):keys (l.set q o')=keys l:=by
 unfold keys
 rw [List.map_set,he]
 have:(l.map Op.key)[q]?=some (Op.key o):=by rw [zL,h];rfl
 exact qB this
structure TM (P:List (List lY)) (s:WS) (m5:List Int):Prop where
 st:s.st=m5.length
 op:∀(j:Nat) o,s.ops[j]?=some o→∃f:Nat,Op.from o=(f:Int)∧m5[f]?=some o.1∧Op.df o=Op.to o∧(Op.to o = -1∨∃e:Nat,Op.to o=(e:Int)∧f≤e∧m5[e]?=some o.1)
 inc:∀(i j:Nat) o o',i<j→s.ops[i]?=some o→s.ops[j]?=some o'→Op.from o<Op.from o'
 sep:∀(i j:Nat) o o',i<j→s.ops[i]?=some o→s.ops[j]?=some o'→o.1=o'.1→0≤Op.to o∧Op.to o<Op.from o'
 idle:∀(k:Nat) t,s.tl[k]?=some t→Th.busy t=false→∀(j:Nat) o,s.ops[j]?=some o→o.1=(k:Int)→0≤Op.to o
 key:∀(j:Nat) x,(keys s.ops)[j]?=some x→∃(k:Nat) (pr:List lY),x.1=(k:Int)∧P[k]?=some pr∧pr[sj ((keys s.ops).take j) x.1]?=some x.2
 rest:∀(k:Nat) t,s.tl[k]?=some t→t.1=(P.getD k []).drop (sj (keys s.ops) (k:Int))
structure TB (P:List (List lY)) (s:WS) (m5:List Int) (k:Nat) (t1:nL) (fh:List oY):Prop where
 op:∀(j:Nat) o,fh[j]?=some o→∃f:Nat,Op.from o=(f:Int)∧(m5++[(k:Int)])[f]?=some o.1∧Op.df o=Op.to o∧(Op.to o = -1∨∃e:Nat,Op.to o=(e:Int)∧f≤e∧(m5++[(k:Int)])[e]?=some o.1)
 inc:∀(i j:Nat) o o',i<j→fh[i]?=some o→fh[j]?=some o'→Op.from o<Op.from o'
 sep:∀(i j:Nat) o o',i<j→fh[i]?=some o→fh[j]?=some o'→o.1=o'.1→0≤Op.to o∧Op.to o<Op.from o'
 Ug:∀(j:Nat) o,fh[j]?=some o→o.1≠(k:Int)→s.ops[j]?=some o
 key:∀(j:Nat) x,(keys fh)[j]?=some x→∃(k:Nat) (pr:List lY),x.1=(k:Int)∧P[k]?=some pr∧pr[sj ((keys fh).take j) x.1]?=some x.2
 rest:t1.1=(P.getD k []).drop (sj (keys fh) (k:Int))
 cN:∀i:Int,i≠(k:Int)→sj (keys fh) i=sj (keys s.ops) i
 busy:Th.busy t1=true
theorem TM.begun {P:List (List lY)} {s:WS} {m5:List Int} (H:TM P s m5) {k:Nat} {t t1:nL} {fh:List oY} (hk:s.tl[k]?=some t) (hB:EX k t s.ops s.st t1 fh):TB P s m5 k t1 fh:=by
 have hw:∀(f:Nat) x,m5[f]?=some x→(m5++[(k:Int)])[f]?=some x:=fun f x h=>by rw [zK (zB.1 h).1];exact h
 have mf:∀(j:Nat) o,s.ops[j]?=some o→∃f:Nat,Op.from o=(f:Int)∧(m5++[(k:Int)])[f]?=some o.1∧Op.df o=Op.to o∧(Op.to o = -1∨∃e:Nat,Op.to o=(e:Int)∧f≤e∧(m5++[(k:Int)])[e]?=some o.1):=fun j o h=>by
  obtain ⟨f,h1,h2,h3,h4⟩:=H.op j o h
  refine ⟨f,h1,hw f _ h2,h3,?_⟩
  rcases h4 with h4 | ⟨e,h4,h5,h6⟩
  ·exact .inl h4
  ·exact .inr ⟨e,h4,h5,hw e _ h6⟩
 rcases hB with ⟨hb,rfl,rfl⟩ | ⟨hb,c,cs,r,h1,h2,rfl,rfl⟩
 ·exact ⟨mf,H.inc,H.sep,fun j o h _=>h,H.key,H.rest k _ hk,fun _ _=>rfl,hb⟩
 ·have pT:=H.st
  have kU:∀(j:Nat) o,(s.ops++[na k c s.st])[j]?=some o→s.ops[j]?=some o∨(j=s.ops.length∧o=na k c s.st):=fun j o h=>by
   by_cases hj:j<s.ops.length
   ·rw [zK hj] at h;exact .inl h
   ·have dD:=(zB.1 h).1
    rw [zY] at dD
    have dD:j<s.ops.length+1:=dD
    have Jx:j=s.ops.length:=by omega
    subst Jx
    rw [zJ (Nat.le_refl _),Nat.sub_self] at h
    cases h
    exact .inr ⟨rfl,rfl⟩
  have DF:(m5++[(k:Int)])[m5.length]?=some (k:Int):=by rw [zJ (Nat.le_refl _),Nat.sub_self];rfl
  have sM:keys (s.ops++[na k c s.st])=keys s.ops++[((k:Int),c)]:=by unfold keys;rw [List.map_append];rfl
  have acq:(keys s.ops).length=s.ops.length:=zH ..
  have q7:=H.rest k t hk
  have hfw:∀(j:Nat) o,s.ops[j]?=some o→Op.from o<(s.st:Int):=fun j o h=>by
   obtain ⟨f,h1,h2,_⟩:=H.op j o h
   have:=(zB.1 h2).1
   omega
  refine ⟨?_,?_,?_,?_,?_,?_,?_,rfl⟩
  ·intro j o h
   rcases kU j o h with h | ⟨rfl,rfl⟩
   ·exact mf j o h
   ·exact ⟨m5.length,by show (s.st:Int)=_;rw [pT],DF,rfl,.inl rfl⟩
  ·intro i j o o' K0 hi hj
   rcases kU i o hi with hi | ⟨hi1,rfl⟩
   ·rcases kU j o' hj with hj | ⟨hj1,rfl⟩
    ·exact H.inc i j o o' K0 hi hj
    ·exact hfw i o hi
   ·have dD:=(zB.1 hj).1
    rw [zY] at dD
    have dD:j<s.ops.length+1:=dD
    omega
  ·intro i j o o' K0 hi hj he
   rcases kU i o hi with hi | ⟨hi1,rfl⟩
   ·rcases kU j o' hj with hj | ⟨hj1,rfl⟩
    ·exact H.sep i j o o' K0 hi hj he
    ·have h0:=H.idle k t hk hb i o hi he
     refine ⟨h0,?_⟩
     obtain ⟨f,_,_,_,h4⟩:=H.op i o hi
     rcases h4 with h4 | ⟨e,h4,_,h6⟩
     ·omega
     ·have:=(zB.1 h6).1
      show Op.to o<(s.st:Int)
      omega
   ·have dD:=(zB.1 hj).1
    rw [zY] at dD
    have dD:j<s.ops.length+1:=dD
    omega
  ·intro j o h j_
   rcases kU j o h with h | ⟨_,rfl⟩
   ·exact h
   ·exact absurd rfl j_
  ·intro j x h
   rw [sM] at h ⊢
   by_cases hj:j<(keys s.ops).length
   ·rw [zK hj] at h
    rw [List.take_append_of_le_length (by omega)]
    exact H.key j x h
   ·have dD:=(zB.1 h).1
    rw [zY] at dD
    have dD:j<(keys s.ops).length+1:=dD
    have Jx:j=(keys s.ops).length:=by omega
    subst Jx
    rw [zJ (Nat.le_refl _),Nat.sub_self] at h
    cases h
    rw [List.take_left]
    rw [h1] at q7
    have hc:((P.getD k []).drop (sj (keys s.ops) (k:Int)))[0]?=some c:=by rw [←q7];rfl
    rw [List.getElem?_drop,Nat.add_zero] at hc
    cases hP:P[k]? with
    | none=>
     rw [zA,hP] at hc
     cases hc
    | some pr=>
     rw [zA,hP] at hc
     exact ⟨k,pr,rfl,hP,hc⟩
  ·show cs=_
   rw [sM,sW,if_pos rfl]
   rw [h1] at q7
   have:=congrArg List.tail q7
   rw [List.tail_drop] at this
   exact this
  ·intro i hi
   rw [sM,sW,if_neg (fun h=>hi h.symm)];rfl
theorem TM.step {P:List (List lY)} {s s':WS} {m5:List Int} (H:TM P s m5) {k:Nat} {t:nL} (hk:s.tl[k]?=some t) (hS:JU k t s s'):TM P s' (m5++[(k:Int)]):=by
 obtain ⟨t1,fh,r',hB,h1,h2⟩:=hS
 have B:=H.begun hk hB
 have xu:k<s.tl.length:=(zB.1 hk).1
 have pT:s'.st=(m5++[(k:Int)]).length:=by rw [h1,H.st,zY];rfl
 have cast:∀i:Nat,i≠k→(i:Int)≠(k:Int):=fun i h=>by omega
 rcases h2 with ⟨d,ho,jz,WD⟩ | ⟨d,nH,w',q,o,hq,Jt,Ux,hqt,ho,jz,WD⟩
 ·refine ⟨pT,by rw [ho];exact B.op,by rw [ho];exact B.inc,by rw [ho];exact B.sep,?_,by rw [ho];exact B.key,?_⟩
  ·intro i t2 hi hb j o hj Mk
   rw [jz] at hi
   rw [ho] at hj
   by_cases pU:i=k
   ·subst pU
    rw [List.getElem?_set_self xu] at hi
    cases hi
    have:Th.busy (js t1 r')=Th.busy t1:=rfl
    rw [this,B.busy] at hb;cases hb
   ·rw [List.getElem?_set_ne (fun h=>pU h.symm)] at hi
    exact H.idle i t2 hi hb j o (B.Ug j o hj (by rw [Mk];exact cast i pU)) Mk
  ·intro i t2 hi
   rw [jz] at hi
   rw [ho]
   by_cases pU:i=k
   ·subst pU
    rw [List.getElem?_set_self xu] at hi
    cases hi
    exact B.rest
   ·rw [List.getElem?_set_ne (fun h=>pU h.symm)] at hi
    rw [B.cN _ (cast i pU)]
    exact H.rest i t2 hi
 ·have vQ:=(zB.1 Jt).1
  have sM:keys s'.ops=keys fh:=by rw [ho];exact Da Jt rfl
  have kU:∀(j:Nat) o2,s'.ops[j]?=some o2→∃o1,fh[j]?=some o1∧o2.1=o1.1∧Op.from o2=Op.from o1∧((j=q∧Op.to o2=(s.st:Int)∧Op.df o2=(s.st:Int))∨(j≠q∧o2=o1)):=fun j o2 h=>by
   rw [ho] at h
   by_cases hj:j=q
   ·subst hj
    rw [List.getElem?_set_self vQ] at h
    cases h
    exact ⟨o,Jt,rfl,rfl,.inl ⟨rfl,rfl,rfl⟩⟩
   ·rw [List.getElem?_set_ne (fun h=>hj h.symm)] at h
    exact ⟨o2,h,rfl,rfl,.inr ⟨hj,rfl⟩⟩
  have DF:(m5++[(k:Int)])[m5.length]?=some (k:Int):=by rw [zJ (Nat.le_refl _),Nat.sub_self];rfl
  have GR:∀(j:Nat) o1,fh[j]?=some o1→o1.1=(k:Int)→j≠q→0≤Op.to o1:=fun j o1 h he hj=>by
   by_cases dD:j<q
   ·exact (B.sep j q o1 o dD h Jt (he.trans Ux.symm)).1
   ·have:=(B.sep q j o o1 (by omega) Jt h (Ux.trans he.symm)).1
    omega
  refine ⟨pT,?_,?_,?_,?_,by rw [sM];exact B.key,?_⟩
  ·intro j o2 hj
   obtain ⟨o1,l1,l2,l3,l4⟩:=kU j o2 hj
   obtain ⟨f,f1,f2,f3,f4⟩:=B.op j o1 l1
   rcases l4 with ⟨rfl,l4,l5⟩ | ⟨_,rfl⟩
   ·rw [Jt] at l1;cases l1
    refine ⟨f,l3.trans f1,by rw [l2];exact f2,l5.trans l4.symm,.inr ⟨m5.length,by rw [l4,H.st],?_,by rw [l2,Ux];exact DF⟩⟩
    have:=(zB.1 f2).1
    rw [zY] at this
    have:f<m5.length+1:=this
    omega
   ·exact ⟨f,f1,f2,f3,f4⟩
  ·intro i j o2 o3 K0 hi hj
   obtain ⟨o1,l1,_,l3,_⟩:=kU i o2 hi
   obtain ⟨o4,m1,_,m3,_⟩:=kU j o3 hj
   rw [l3,m3]
   exact B.inc i j o1 o4 K0 l1 m1
  ·intro i j o2 o3 K0 hi hj he
   obtain ⟨o1,l1,l2,l3,l4⟩:=kU i o2 hi
   obtain ⟨o4,m1,m2,m3,_⟩:=kU j o3 hj
   have hs:=B.sep i j o1 o4 K0 l1 m1 (l2.symm.trans (he.trans m2))
   rcases l4 with ⟨rfl,l4,l5⟩ | ⟨_,rfl⟩
   ·rw [Jt] at l1;cases l1
    have:=hs.1;omega
   ·rw [m3];exact hs
  ·intro i t2 hi hb j o2 hj Mk
   obtain ⟨o1,l1,l2,l3,l4⟩:=kU j o2 hj
   rw [jz] at hi
   by_cases pU:i=k
   ·subst pU
    rcases l4 with ⟨_,l4,_⟩ | ⟨l4,rfl⟩
    ·rw [l4];omega
    ·exact GR j o2 l1 Mk l4
   ·rw [List.getElem?_set_ne (fun h=>pU h.symm)] at hi
    have j_:o2.1≠(k:Int):=by rw [Mk];exact cast i pU
    rcases l4 with ⟨rfl,_,_⟩ | ⟨_,rfl⟩
    ·rw [Jt] at l1;cases l1
     exact absurd (l2.trans Ux) j_
    ·exact H.idle i t2 hi hb j o2 (B.Ug j o2 l1 j_) Mk
  ·intro i t2 hi
   rw [jz] at hi
   rw [sM]
   by_cases pU:i=k
   ·subst pU
    rw [List.getElem?_set_self xu] at hi
    cases hi
    exact B.rest
   ·rw [List.getElem?_set_ne (fun h=>pU h.symm)] at hi
    rw [B.cN _ (cast i pU)]
    exact H.rest i t2 hi
open Go.Bm Go.oX
abbrev sm {β:Type} (x:Option ((Bool×Unit)×β)):Prop:=Ok x (fun r=>r.1.1=true)
theorem Ok.wz {α:Type} {c:Bool} {x y:Option α} {P:α→Prop} (h:c=true) (k:Ok x P):Ok (br c x y) P:=by rw [h];exact k
theorem Ok.oW {α:Type} {c:Bool} {x y:Option α} {P:α→Prop} (h:c=false) (k:Ok y P):Ok (br c x y) P:=by rw [h];exact k
abbrev SSt:Type:=(Int×Unit)×(Unit×(Unit×(((Int×(Int×(Int×(Int×Unit))))×Unit)×Ds)))
abbrev SNw:Type:=(Option Nat×(Int×Unit))×(T0×(T1×(T2×(T3×(T4×(T5×(T6×(T2×(T9×Unit)))))))))
abbrev SFt:Type:=(mE×(List (List oQ)×(List (List lY)×Unit)))×Unit
abbrev SIx:Type:=(Int×Unit)×(Unit×(Unit×(Unit×Unit)))
abbrev SBx:Type:=(Bool×Unit)×(Unit×(Unit×(Unit×Unit)))
theorem qm {β:Type} {op cd:Int} {m:Nat} (hf:lG op (m+1) cd) (b:SBx) (hb:b.1.1=true↔op=4∨op=5) (j9:SBx→Option ((Bool×Unit)×β)) (sP:∀s,s.1.1=true→sm (j9 s)) :
  sm (br b.1.1 (j9 ((true,()),((),((),((),()))))) (br (af op 7) (br (af ((m+1:Nat):Int) 4) (br (ax (af cd 1)) (j9 ((true,()),((),((),((),()))))) (br (af ((m+1:Nat):Int) 1) (j9 ((af cd 1,()),((),((),((),()))))) (j9 ((false,()),((),((),((),()))))))) (br (af ((m+1:Nat):Int) 1) (j9 ((af cd 1,()),((),((),((),()))))) (j9 ((false,()),((),((),((),()))))))) (br (af op 8) (br (af ((m+1:Nat):Int) 3) (j9 ((true,()),((),((),((),()))))) (br (aY ((m+1:Nat):Int) 3) (j9 ((ax (af cd 0),()),((),((),((),()))))) (j9 ((false,()),((),((),((),()))))))) (br (af op 9) (br (af ((m+1:Nat):Int) 3) (j9 ((true,()),((),((),((),()))))) (br (af ((m+1:Nat):Int) 5) (j9 ((true,()),((),((),((),()))))) (br (aY ((m+1:Nat):Int) 5) (j9 ((ax (af cd 0),()),((),((),((),()))))) (j9 ((false,()),((),((),((),())))))))) (br (af op 11) (br (af ((m+1:Nat):Int) 1) (j9 ((true,()),((),((),((),()))))) (br (af ((m+1:Nat):Int) 3) (j9 ((true,()),((),((),((),()))))) (br (af ((m+1:Nat):Int) 2) (j9 ((ax (af cd 0),()),((),((),((),()))))) (j9 ((false,()),((),((),((),())))))))) (j9 ((af ((m+1:Nat):Int) 1,()),((),((),((),())))))))))):=by
 unfold lG at hf
 refine .br (fun _=>sP _ rfl) fun nb=>?_
 have nb:¬(op=4∨op=5):=fun h=>by have:=hb.2 h;rw [nb] at this;cases this
 refine .br (fun e7=>?_) fun n7=>.br (fun e8=>?_) fun n8=>.br (fun e9=>?_) fun n9=>.br (fun e11=>?_) fun Wa=>?_
 ·have e7:=bo.1 e7
  refine .br (fun e=>.br (fun _=>sP _ rfl) fun e2=>?_) fun e=>.br (fun e2=>sP _ (bo.2 (by have:=bh.1 e;have:=bo.1 e2;omega))) fun e2=>?_
  ·have:=bo.1 e;have:=bo.1 (eI.1 e2)
   exfalso;omega
  ·have:=bh.1 e;have:=bh.1 e2
   exfalso;omega
 ·have e8:=bo.1 e8
  refine .br (fun _=>sP _ rfl) fun e=>.br (fun e2=>sP _ (kh.2 (bh.2 (by have:=bh.1 e;omega)))) fun e2=>?_
  have:=bh.1 e;have:=gD.1 e2
  exfalso;omega
 ·have e9:=bo.1 e9
  refine .br (fun _=>sP _ rfl) fun e=>.br (fun _=>sP _ rfl) fun e3=>.br (fun e2=>sP _ (kh.2 (bh.2 (by have:=bh.1 e;have:=bh.1 e3;omega)))) fun e2=>?_
  have:=bh.1 e;have:=bh.1 e3;have:=gD.1 e2
  exfalso;omega
 ·have e11:=bo.1 e11
  refine .br (fun _=>sP _ rfl) fun e=>.br (fun _=>sP _ rfl) fun e3=>.br (fun e2=>sP _ (kh.2 (bh.2 (by have:=bh.1 e;have:=bh.1 e3;omega)))) fun e2=>?_
  have:=bh.1 e;have:=bh.1 e3;have:=bh.1 e2
  exfalso;omega
 ·have:=bh.1 n7;have:=bh.1 n8;have:=bh.1 n9;have:=bh.1 Wa
  exact sP _ (bo.2 (by omega))
def x5 (ops:List oY) (T j:Int):Prop:=(j = -1∨∃(i:Nat) (o:oY),j=(i:Int)∧ops[i]?=some o∧o.1=T)∧∀(i:Nat) (o:oY),j<(i:Int)→ops[i]?=some o→o.1≠T
theorem uV {ops:List oY} {T:Int} (a1:List Int) (v0:((List oY)×Unit)×Unit) (v1:SSt) (v2:SFt) (v3:SIx→Option ((Bool×Unit)×(T0×(T1×(T2×(T3×(T4×(T5×(T6×(T7×(T2×(T9×Unit))))))))))))
  (h0:v0.1.1=ops) (hT:bO (cy .i64 (nth 0 a1 (nN v1.1.1))) v2.1.1.2.1=T) (hl:ops.length≤1000)
  (hK:∀j,x5 ops T j→sm (v3 ((j,()),((),((),((),())))))) :
  sm (loop (g.eH a1 v0 v1 v2 v3) (((aE .i64 (zN (len v0.1.1)) 1),()),((),((),((),()))))):=by
 rw [h0,gq,bS (by omega)]
 refine .loop (fun m (z:SIx)=>-1≤z.1.1∧z.1.1+1=(m:Int)∧z.1.1<(ops.length:Int)∧∀(i:Nat) (o:oY),z.1.1<(i:Int)→ops[i]?=some o→o.1≠T) (fun m z gg hI ih=>?_) (N:=ops.length) (by unfold lQ;omega) ⟨by show -1≤(ops.length:Int)-1;omega,by show (ops.length:Int)-1+1=_;omega,by show (ops.length:Int)-1<_;omega,fun i o h h'=>by
  have:=(zB.1 h').1
  have h:(ops.length:Int)-1<(i:Int):=h
  omega⟩
 obtain ⟨z1,z2,z3,z4⟩:=hI
 unfold g.eH
 rw [h0,hT]
 refine .br (fun e=>?_) fun e=>?_
 ·have e:=Jl.1 e
  obtain ⟨i,hi⟩:∃i:Nat,z.1.1=(i:Int):=⟨z.1.1.toNat,by omega⟩
  have dD:i<ops.length:=by omega
  rw [hi] at z4 z2 ⊢
  have hn:∀d,nth d ops (nN (i:Int))=ops[i]:=fun d=>fy dD
  simp only [hn]
  refine .gd (by rw [bF];omega) (.gd (by rw [bZ,aI];exact dD) (.br (fun h=>?_) fun h=>hK _ ⟨.inr ⟨i,_,rfl,zD dD,bo.1 (eI.1 h)⟩,z4⟩))
  have h:=bh.1 (kh.1 h)
  have hs:aE .i64 (i:Int) 1=(i:Int)-1:=bS (by omega)
  refine ih (m-1) _ (by omega) ⟨by show -1≤aE .i64 (i:Int) 1;omega,by show aE .i64 (i:Int) 1+1=_;omega,by show aE .i64 (i:Int) 1<_;omega,fun i2 o h2 h3=>?_⟩
  have h2:aE .i64 (i:Int) 1<(i2:Int):=h2
  by_cases W5:i2=i
  ·subst W5
   rw [zD dD] at h3;cases h3
   exact h
  ·exact z4 i2 o (by omega) h3
 ·have e:=qW.1 e
  exact hK _ ⟨.inl (by omega),z4⟩
theorem qg {n:Nat} {C:WC} {P:List (List lY)} {s s':WS} {c5:T5} {D:Ds} {m5:List Int} {k:Nat} {t:nL} {m:Nat} {j:Int} (H:WI n C s' c5 D) (hM:TM P s' (m5++[(k:Int)])) (hw:s.st=m5.length) (hk:s.tl[k]?=some t) (hC:JV k t s s') (hm:nO t m) (hj:x5 s'.ops (k:Int) j) :
  ∃(q:Nat) (o:oY) (t':nL),j=(q:Int)∧s'.ops[q]?=some o∧s'.tl=s.tl.set k t'∧((Op.to o<0∧nO t' (m+1))∨(0≤Op.to o∧nO t' 0∧lG o.2.1.1 (m+1) o.2.2.2.2.2.1)):=by
 obtain ⟨t',jz,hc⟩:=hC m hm
 have xu:k<s.tl.length:=(zB.1 hk).1
 have Wy:s'.tl[k]?=some t':=by rw [jz,List.getElem?_set_self xu]
 have same:∀(q:Nat) o,s'.ops[q]?=some o→o.1=(k:Int)→(Op.to o = -1∨Op.to o=(s.st:Int))→j=(q:Int):=fun q o hq ho yR=>by
  rcases hj with ⟨h1,h2⟩
  rcases h1 with h1 | ⟨i,o2,h1,h3,h4⟩
  ·exact absurd ho (h2 q o (by omega) hq)
  ·by_cases hi:i=q
   ·omega
   ·by_cases dD:i<q
    ·exact absurd ho (h2 q o (by omega) hq)
    ·have hs:=hM.sep q i o o2 (by omega) hq h3 (ho.trans h4.symm)
     obtain ⟨f,f1,f2,_⟩:=hM.op i o2 h3
     have:=(zB.1 f2).1
     rw [zY] at this
     have:f<m5.length+1:=this
     have h5:Op.from o2=(f:Int):=f1
     omega
 rcases hc with ⟨hb,hc⟩ | ⟨hb,q,o,hq,ho,yR,hf⟩
 ·obtain ⟨id,rr,w,a1,a2,a3,a4,a5,a6,a7,a8⟩:=H.OA k t' Wy
  obtain ⟨b1,b2,q,b3,o,b4,b5,b6,b7,b8⟩:=a8.busy hb
  exact ⟨q,o,t',same q o b4 b5 (.inl b7),b4,jz,.inl ⟨by omega,hc⟩⟩
 ·exact ⟨q,o,t',same q o hq ho (.inr yR),hq,jz,.inr ⟨by omega,.inr ⟨hb,rfl⟩,hf⟩⟩
theorem eg {s s':WS} {k i m:Nat} {t':nL} (jz:s'.tl=s.tl.set k t') (pU:i≠k) (h:∀t,s.tl[i]?=some t→nO t m):∀t,s'.tl[i]?=some t→nO t m:=fun t ht=>by
 rw [jz,List.getElem?_set_ne (fun e=>pU e.symm)] at ht
 exact h t ht
theorem kq {s s':WS} {k m:Nat} {t':nL} (jz:s'.tl=s.tl.set k t') (h:nO t' m):∀t,s'.tl[k]?=some t→nO t m:=fun t ht=>by
 rw [jz] at ht
 have dD:=(zB.1 ht).1
 rw [zM] at dD
 rw [List.getElem?_set_self dD] at ht
 cases ht
 exact h
def TR (s:WS) (k:Nat) (own:Int×(Int×(Int×(Int×Unit)))):Prop:=∃n0 n1 n2 n3:Nat,own=((n0:Int),((n1:Int),((n2:Int),((n3:Int),()))))∧(n0≤k∧n1≤k∧n2≤k∧n3≤k)∧(∀t,s.tl[0]?=some t→nO t n0)∧(∀t,s.tl[1]?=some t→nO t n1)∧(∀t,s.tl[2]?=some t→nO t n2)∧(∀t,s.tl[3]?=some t→nO t n3)
set_option maxHeartbeats 8000000 in
theorem B2 {C:WC} {P:List (List lY)} {w0:WS} (a1:List Int) (hb:∀x∈a1,0≤x∧x≤255) (v0:SNw) (v1:SFt) (D:Ds) (hp:1≤v1.1.1.2.1∧v1.1.1.2.1≤4)
  (H0:WI 0 C w0 v0.2.2.2.2.2.2.1 D) (hM0:TM P w0 []) (h1:w0.st=0) (h2:w0.ops=[]) (hO0:TR w0 0 (0,(0,(0,(0,()))))) :
  sm (loop (g.eG a1 v0 v1 C.wi) ((0,()),((),((),(((0,(0,(0,(0,())))),()),D))))):=by
 refine .loop (fun m (z:SSt)=>∃(k n:Nat) (s:WS) (m5:List Int),z.1.1=(k:Int)∧k+m=300∧n≤k∧WI n C s v0.2.2.2.2.2.2.1 z.2.2.2.2∧s.st≤n∧s.ops.length≤n∧TM P s m5∧TR s k z.2.2.2.1.1) (fun m z gg hI ih=>?_) (N:=300) (by unfold lQ;omega) ⟨0,0,w0,[],rfl,rfl,Nat.le_refl _,H0,by omega,by rw [h2];exact Nat.le_refl _,hM0,hO0⟩
 obtain ⟨k,n,s,m5,z1,z2,z3,H,z5,z6,hM,Xn⟩:=hI
 unfold g.eG
 rw [z1]
 simp only [gq]
 refine .kS (fun _=>k<a1.length∧k<300) (fun u hu=>?_) fun kk jA=>.br (fun e=>.br (fun e2=>jA _ ⟨by have:=eh.1 e;omega,by have:=eh.1 e2;omega⟩) fun _=>.some rfl) fun _=>.some rfl
 obtain ⟨u1,u2⟩:=hu
 have ek:nN (k:Int)=k:=rfl
 have hx:ae .i64 (k:Int) 1=((k+1:Nat):Int):=by rw [aU (by omega)];rfl
 have hby:=hb _ (List.getElem_mem u1)
 have eT:bO (cy .i64 (nth 0 a1 (nN (k:Int)))) v1.1.1.2.1=a1[k]%v1.1.1.2.1:=by
  rw [ek,fy u1,fS (by omega),cO (by omega)]
 have YX:bO (cy .i64 (nth 0 a1 (nN z.1.1))) v1.1.1.2.1=a1[k]%v1.1.1.2.1:=by rw [z1];exact eT
 have Mr:=Int.emod_nonneg a1[k] (show v1.1.1.2.1≠0 by omega)
 have hT2:=Int.emod_lt_of_pos a1[k] (show 0<v1.1.1.2.1 by omega)
 refine .gd (by rw [bF];omega) (.gd (by rw [bZ,aI,ek];exact u1) (.gd (by unfold E4;omega) ?_))
 rw [eT]
 generalize a1[k]%v1.1.1.2.1=T at Mr hT2 YX
 refine .bd (HF H (by omega) z5 z6 T (by omega)) fun cu h12=>?_
 obtain ⟨⟨iz,⟨⟩⟩,⟨⟩,⟨⟩,⟨own,⟨⟩⟩,Dz⟩:=z
 dsimp only at z1 Xn h12 ⊢
 subst z1
 rcases h12 with ⟨hD,hr⟩ | ⟨hr,k',t,s',wO,ht,he,hS,H',_,hC⟩
 ·have H':WI n C s v0.2.2.2.2.2.2.1 cu.2:=by rw [hD];exact H
  have j_:cu.1.2.1≠0:=by
   rcases hr with ⟨_,h⟩ | ⟨_,_,_,_,_,h⟩<;>(rw [h];decide)
  refine .bd (EN H' (by omega)) fun p3 h3=>.kS (fun _=>True) (fun s5 _=>?_) fun kk jA=>uV a1 p3 _ v1 kk h3 YX (by omega) fun j _=>jA _ trivial
  refine .jn (Ok.wz (kh.2 (bh.2 j_)) (ih (m-1) _ (by omega) ⟨k+1,n,s,m5,hx,by omega,by omega,H',z5,z6,hM,?_⟩))
  obtain ⟨n0,n1,n2,n3,e,⟨b0,b1,b2,b3⟩,c⟩:=Xn
  exact ⟨n0,n1,n2,n3,e,⟨by omega,by omega,by omega,by omega⟩,c⟩
 ·have BH:=hM.step ht hS
  have pT:s'.st=s.st+1:=by obtain ⟨_,_,_,_,h,_⟩:=hS;exact h
  have mf:s'.ops.length≤s.ops.length+1:=by
   obtain ⟨t1,fh,r',hB,h1,h2⟩:=hS
   have hl:fh.length≤s.ops.length+1:=by
    rcases hB with ⟨_,_,rfl⟩ | ⟨_,c,cs,r,_,_,_,rfl⟩
    ·omega
    ·rw [zY];exact Nat.le_refl _
   rcases h2 with ⟨_,ho,_⟩ | ⟨_,_,_,_,_,_,_,_,_,ho,_⟩
   ·rw [ho];exact hl
   ·rw [ho,zM];exact hl
  refine .bd (EN H' (by omega)) fun p3 h3=>.kS (fun s5=>x5 s'.ops (k':Int) s5.1.1) (fun s5 Uv=>?_) fun kk jA=>uV a1 p3 _ v1 kk h3 YX (by omega) fun j hj=>jA _ (wO▸hj)
  rw [h3]
  obtain ⟨n0,n1,n2,n3,rfl,⟨b0,b1,b2,b3⟩,c0,c1,c2,c3⟩:=Xn
  have hk4:k'=0∨k'=1∨k'=2∨k'=3:=by omega
  rcases hk4 with rfl | rfl | rfl | rfl
  ·have hT:T=0:=wO
   subst hT
   obtain ⟨q,o,t',hq,ho,jz,rh⟩:=qg H' BH hM.st ht hC (c0 t ht) Uv
   have vQ:=(zB.1 ho).1
   have K9:∀d,nth d s'.ops (nN s5.1.1)=o:=fun d=>by rw [hq];exact bR ho
   have hi:ae .i64 (n0:Int) 1=((n0+1:Nat):Int):=by rw [aU (by omega)];rfl
   simp only [K9,hi]
   refine .kS (fun _=>True) (fun u _=>?_) fun kk jA=>Ok.oW (eI.2 (bo.2 hr)) (Ok.oW (gD.2 (by omega)) (jA _ trivial))
   refine .jn ?_
   (repeat (first | refine Ok.wz (by decide) ?_ | refine Ok.oW (by decide) ?_))
   refine .gd (by rw [bF];omega) (.gd (by rw [bZ,dg,aI];omega) ?_)
   rcases rh with ⟨yR,xw⟩ | ⟨yR,xw,hf⟩
   ·refine .jn (Ok.wz (eh.2 yR) (ih (m-1) _ (by omega) ⟨k+1,n+1,s',_,hx,by omega,by omega,H',by omega,by omega,BH,n0+1,n1,n2,n3,rfl,⟨by omega,by omega,by omega,by omega⟩,kq jz xw,eg jz (by decide) c1,eg jz (by decide) c2,eg jz (by decide) c3⟩))
   ·have go:sm (gg ((ae .i64 (k:Int) 1,()),((),((),((((0:Int),((n1:Int),((n2:Int),((n3:Int),())))),()),cu.2))))):=ih (m-1) _ (by omega) ⟨k+1,n+1,s',_,hx,by omega,by omega,H',by omega,by omega,BH,0,n1,n2,n3,rfl,⟨by omega,by omega,by omega,by omega⟩,kq jz xw,eg jz (by decide) c1,eg jz (by decide) c2,eg jz (by decide) c3⟩
    refine .jn (Ok.oW (gD.2 (show ¬Op.to o<0 by omega)) ?_)
    refine .jn ?_
    (repeat (first | refine Ok.wz (by decide) ?_ | refine Ok.oW (by decide) ?_))
    refine .jn ?_
    (repeat (first | refine Ok.wz (by decide) ?_ | refine Ok.oW (by decide) ?_))
    refine .jn (.kS (fun b=>b.1.1=true) (fun b qk=>Ok.oW (eI.2 qk) go) fun j9 sP=>.kS (fun b=>b.1.1=true↔o.2.1.1=4∨o.2.1.1=5) (fun b qk=>?_) fun Me DO=>.br (fun e=>DO _ ⟨fun _=>.inl (bo.1 e),fun _=>rfl⟩) fun e=>DO _ ⟨fun e=>.inr (bo.1 e),fun h=>bo.2 (by have:=bh.1 e;omega)⟩)
    exact qm hf b qk j9 sP
  ·have hT:T=1:=wO
   subst hT
   obtain ⟨q,o,t',hq,ho,jz,rh⟩:=qg H' BH hM.st ht hC (c1 t ht) Uv
   have vQ:=(zB.1 ho).1
   have K9:∀d,nth d s'.ops (nN s5.1.1)=o:=fun d=>by rw [hq];exact bR ho
   have hi:ae .i64 (n1:Int) 1=((n1+1:Nat):Int):=by rw [aU (by omega)];rfl
   simp only [K9,hi]
   refine .kS (fun _=>True) (fun u _=>?_) fun kk jA=>Ok.oW (eI.2 (bo.2 hr)) (Ok.oW (gD.2 (by omega)) (jA _ trivial))
   refine .jn ?_
   (repeat (first | refine Ok.wz (by decide) ?_ | refine Ok.oW (by decide) ?_))
   refine .gd (by rw [bF];omega) (.gd (by rw [bZ,dg,aI];omega) ?_)
   rcases rh with ⟨yR,xw⟩ | ⟨yR,xw,hf⟩
   ·refine .jn (Ok.wz (eh.2 yR) (ih (m-1) _ (by omega) ⟨k+1,n+1,s',_,hx,by omega,by omega,H',by omega,by omega,BH,n0,n1+1,n2,n3,rfl,⟨by omega,by omega,by omega,by omega⟩,eg jz (by decide) c0,kq jz xw,eg jz (by decide) c2,eg jz (by decide) c3⟩))
   ·have go:sm (gg ((ae .i64 (k:Int) 1,()),((),((),((((n0:Int),((0:Int),((n2:Int),((n3:Int),())))),()),cu.2))))):=ih (m-1) _ (by omega) ⟨k+1,n+1,s',_,hx,by omega,by omega,H',by omega,by omega,BH,n0,0,n2,n3,rfl,⟨by omega,by omega,by omega,by omega⟩,eg jz (by decide) c0,kq jz xw,eg jz (by decide) c2,eg jz (by decide) c3⟩
    refine .jn (Ok.oW (gD.2 (show ¬Op.to o<0 by omega)) ?_)
    refine .jn ?_
    (repeat (first | refine Ok.wz (by decide) ?_ | refine Ok.oW (by decide) ?_))
    refine .jn ?_
    (repeat (first | refine Ok.wz (by decide) ?_ | refine Ok.oW (by decide) ?_))
    refine .jn (.kS (fun b=>b.1.1=true) (fun b qk=>Ok.oW (eI.2 qk) go) fun j9 sP=>.kS (fun b=>b.1.1=true↔o.2.1.1=4∨o.2.1.1=5) (fun b qk=>?_) fun Me DO=>.br (fun e=>DO _ ⟨fun _=>.inl (bo.1 e),fun _=>rfl⟩) fun e=>DO _ ⟨fun e=>.inr (bo.1 e),fun h=>bo.2 (by have:=bh.1 e;omega)⟩)
    exact qm hf b qk j9 sP
  ·have hT:T=2:=wO
   subst hT
   obtain ⟨q,o,t',hq,ho,jz,rh⟩:=qg H' BH hM.st ht hC (c2 t ht) Uv
   have vQ:=(zB.1 ho).1
   have K9:∀d,nth d s'.ops (nN s5.1.1)=o:=fun d=>by rw [hq];exact bR ho
   have hi:ae .i64 (n2:Int) 1=((n2+1:Nat):Int):=by rw [aU (by omega)];rfl
   simp only [K9,hi]
   refine .kS (fun _=>True) (fun u _=>?_) fun kk jA=>Ok.oW (eI.2 (bo.2 hr)) (Ok.oW (gD.2 (by omega)) (jA _ trivial))
   refine .jn ?_
   (repeat (first | refine Ok.wz (by decide) ?_ | refine Ok.oW (by decide) ?_))
   refine .gd (by rw [bF];omega) (.gd (by rw [bZ,dg,aI];omega) ?_)
   rcases rh with ⟨yR,xw⟩ | ⟨yR,xw,hf⟩
   ·refine .jn (Ok.wz (eh.2 yR) (ih (m-1) _ (by omega) ⟨k+1,n+1,s',_,hx,by omega,by omega,H',by omega,by omega,BH,n0,n1,n2+1,n3,rfl,⟨by omega,by omega,by omega,by omega⟩,eg jz (by decide) c0,eg jz (by decide) c1,kq jz xw,eg jz (by decide) c3⟩))
   ·have go:sm (gg ((ae .i64 (k:Int) 1,()),((),((),((((n0:Int),((n1:Int),((0:Int),((n3:Int),())))),()),cu.2))))):=ih (m-1) _ (by omega) ⟨k+1,n+1,s',_,hx,by omega,by omega,H',by omega,by omega,BH,n0,n1,0,n3,rfl,⟨by omega,by omega,by omega,by omega⟩,eg jz (by decide) c0,eg jz (by decide) c1,kq jz xw,eg jz (by decide) c3⟩
    refine .jn (Ok.oW (gD.2 (show ¬Op.to o<0 by omega)) ?_)
    refine .jn ?_
    (repeat (first | refine Ok.wz (by decide) ?_ | refine Ok.oW (by decide) ?_))
    refine .jn ?_
    (repeat (first | refine Ok.wz (by decide) ?_ | refine Ok.oW (by decide) ?_))
    refine .jn (.kS (fun b=>b.1.1=true) (fun b qk=>Ok.oW (eI.2 qk) go) fun j9 sP=>.kS (fun b=>b.1.1=true↔o.2.1.1=4∨o.2.1.1=5) (fun b qk=>?_) fun Me DO=>.br (fun e=>DO _ ⟨fun _=>.inl (bo.1 e),fun _=>rfl⟩) fun e=>DO _ ⟨fun e=>.inr (bo.1 e),fun h=>bo.2 (by have:=bh.1 e;omega)⟩)
    exact qm hf b qk j9 sP
  ·have hT:T=3:=wO
   subst hT
   obtain ⟨q,o,t',hq,ho,jz,rh⟩:=qg H' BH hM.st ht hC (c3 t ht) Uv
   have vQ:=(zB.1 ho).1
   have K9:∀d,nth d s'.ops (nN s5.1.1)=o:=fun d=>by rw [hq];exact bR ho
   have hi:ae .i64 (n3:Int) 1=((n3+1:Nat):Int):=by rw [aU (by omega)];rfl
   simp only [K9,hi]
   refine .kS (fun _=>True) (fun u _=>?_) fun kk jA=>Ok.oW (eI.2 (bo.2 hr)) (Ok.oW (gD.2 (by omega)) (jA _ trivial))
   refine .jn ?_
   (repeat (first | refine Ok.wz (by decide) ?_ | refine Ok.oW (by decide) ?_))
   refine .gd (by rw [bF];omega) (.gd (by rw [bZ,dg,aI];omega) ?_)
   rcases rh with ⟨yR,xw⟩ | ⟨yR,xw,hf⟩
   ·refine .jn (Ok.wz (eh.2 yR) (ih (m-1) _ (by omega) ⟨k+1,n+1,s',_,hx,by omega,by omega,H',by omega,by omega,BH,n0,n1,n2,n3+1,rfl,⟨by omega,by omega,by omega,by omega⟩,eg jz (by decide) c0,eg jz (by decide) c1,eg jz (by decide) c2,kq jz xw⟩))
   ·have go:sm (gg ((ae .i64 (k:Int) 1,()),((),((),((((n0:Int),((n1:Int),((n2:Int),((0:Int),())))),()),cu.2))))):=ih (m-1) _ (by omega) ⟨k+1,n+1,s',_,hx,by omega,by omega,H',by omega,by omega,BH,n0,n1,n2,0,rfl,⟨by omega,by omega,by omega,by omega⟩,eg jz (by decide) c0,eg jz (by decide) c1,eg jz (by decide) c2,kq jz xw⟩
    refine .jn (Ok.oW (gD.2 (show ¬Op.to o<0 by omega)) ?_)
    refine .jn ?_
    (repeat (first | refine Ok.wz (by decide) ?_ | refine Ok.oW (by decide) ?_))
    refine .jn ?_
    (repeat (first | refine Ok.wz (by decide) ?_ | refine Ok.oW (by decide) ?_))
    refine .jn (.kS (fun b=>b.1.1=true) (fun b qk=>Ok.oW (eI.2 qk) go) fun j9 sP=>.kS (fun b=>b.1.1=true↔o.2.1.1=4∨o.2.1.1=5) (fun b qk=>?_) fun Me DO=>.br (fun e=>DO _ ⟨fun _=>.inl (bo.1 e),fun _=>rfl⟩) fun e=>DO _ ⟨fun e=>.inr (bo.1 e),fun h=>bo.2 (by have:=bh.1 e;omega)⟩)
    exact qm hf b qk j9 sP
open Go.Bm Go.oX
abbrev Shown:Prop:=Ok (g.cq [] [] [] [] [] [] [] [] [] []) (fun r=>r.1.1=true)
theorem TM.new (p:mE) (P:List (List lY)) (b:Nat):TM P (NH p P b) []:=by
 have no:∀(j:Nat) (o:oY),(NH p P b).ops[j]?=some o→False:=fun j o h=>by cases h
 refine ⟨rfl,fun j o h=>(no j o h).elim,fun i j o o' _ h=>(no i o h).elim,fun i j o o' _ h=>(no i o h).elim,fun k t _ _ j o h=>(no j o h).elim,fun j x h=>?_,fun k t h=>?_⟩
 ·have h:([]:List (Int×lY))[j]?=some x:=h
  cases h
 ·obtain ⟨rfl,_⟩:=wV h
  show P.getD k []=(P.getD k []).drop 0
  rw [List.drop_zero]
theorem rP (hs:Shown) (c:mE×(List (List oQ)×List (List lY))) (a1:List Int) (mf:∀l∈c.2.1,∀o∈l,0≤o.1) (vR:∀l∈c.2.2,pD l) (hb:∀x∈a1,0≤x∧x≤255) :
  sm (g.fp c a1 [] [] [] [] [] [] [] [] [] []):=by
 unfold g.fp
 refine .bd hs fun p0 h0=>.bd (Lg c mf vR) fun p1 h1=>?_
 obtain ⟨f1,f2,f3⟩:=h1
 have Uz:=fa.1 f1
 refine .bd (L7 f1 f2 f3 _ _ _ _ _ _ _ _ _ _) fun p2 h2=>?_
 obtain ⟨n1,n2,C,n3,n4,H⟩:=h2
 have hz:∀(b i:Nat) t,(NH p1.1.1 p1.1.2.2.1 b).tl[i]?=some t→nO t 0:=fun b i t h=>by
  obtain ⟨rfl,_⟩:=wV h
  exact .inr ⟨rfl,rfl⟩
 refine .gC n1 (.kS (fun _=>True) (fun u _=>?_) fun kk jA=>.br (fun e=>?_) fun _=>.br (fun e=>?_) fun _=>jA _ trivial)
 ·rw [←n3]
  exact B2 a1 hb p2 p1 _ (by omega) H (TM.new _ _ _) rfl rfl ⟨0,0,0,0,rfl,⟨Nat.le_refl _,Nat.le_refl _,Nat.le_refl _,Nat.le_refl _⟩,hz _ 0,hz _ 1,hz _ 2,hz _ 3⟩
 ·rw [h0] at e;cases e
 ·have e:=bh.1 (kh.1 e);exact absurd n2 e
open Go.Bm
def e.ab (L:gY) (J:gZ) (a0:Int) (a1:Int) (a2:Int):mU:=(br (dn a1 a0) (some (((dn a0 a2),()),())) (some ((false,()),())))
def e.e_ (L:gY) (J:gZ) (a0:(Int×U4)):mU:=(bd (e.ab L J a0.1 1 8) (fun p0=>(br p0.1.1 (bd (e.ab L J a0.2.1 1 4) (fun p1=>(br p1.1.1 (bd (e.ab L J a0.2.2.1 0 2048) (fun p2=>(br p2.1.1 (bd (e.ab L J a0.2.2.2 0 8192) (fun p3=>(br p3.1.1 (some (((af (bO (bits BinOp.or IntKind.i64 a0.2.2.1 a0.2.2.2) 8) 0),()),())) (some ((false,()),()))))) (some ((false,()),()))))) (some ((false,()),()))))) (some ((false,()),())))))
def e.gW (L:gY) (J:gZ) (a0:(List (List U4))) (v0:U9) (v1:U9→mU) (k:(U9→mU)) (s:U9):mU:=(br (aY s.1.1 (zN (len (nth [] a0 (nN v0.1.1))))) (gd (bn s.1.1) (gd (bp (nN s.1.1) (len (nth [] a0 (nN v0.1.1)))) (br (dn 5 (cy IntKind.i64 (nth (0,(0,0)) (nth [] a0 (nN v0.1.1)) (nN s.1.1)).1)) (some ((false,()),())) (br (af (nth (0,(0,0)) (nth [] a0 (nN v0.1.1)) (nN s.1.1)).1 0) (bd (e.ab L J (nth (0,(0,0)) (nth [] a0 (nN v0.1.1)) (nN s.1.1)).2.1 0 99) (fun p0=>(br (ax p0.1.1) (some ((false,()),())) (br (af (nth (0,(0,0)) (nth [] a0 (nN v0.1.1)) (nN s.1.1)).1 0) (bd (e.ab L J (nth (0,(0,0)) (nth [] a0 (nN v0.1.1)) (nN s.1.1)).2.2 0 0) (fun p1=>(br (ax p1.1.1) (some ((false,()),())) (k (((ae IntKind.i64 s.1.1 1),()),((),((),((),())))))))) (br (af (nth (0,(0,0)) (nth [] a0 (nN v0.1.1)) (nN s.1.1)).1 1) (bd (e.ab L J (nth (0,(0,0)) (nth [] a0 (nN v0.1.1)) (nN s.1.1)).2.2 0 0) (fun p2=>(br (ax p2.1.1) (some ((false,()),())) (k (((ae IntKind.i64 s.1.1 1),()),((),((),((),())))))))) (br (af (nth (0,(0,0)) (nth [] a0 (nN v0.1.1)) (nN s.1.1)).1 2) (bd (e.ab L J (nth (0,(0,0)) (nth [] a0 (nN v0.1.1)) (nN s.1.1)).2.2 0 5) (fun p3=>(br (ax p3.1.1) (some ((false,()),())) (k (((ae IntKind.i64 s.1.1 1),()),((),((),((),())))))))) (br (af (nth (0,(0,0)) (nth [] a0 (nN v0.1.1)) (nN s.1.1)).1 3) (bd (e.ab L J (nth (0,(0,0)) (nth [] a0 (nN v0.1.1)) (nN s.1.1)).2.2 0 8) (fun p4=>(br (ax p4.1.1) (some ((false,()),())) (k (((ae IntKind.i64 s.1.1 1),()),((),((),((),())))))))) (br (af (nth (0,(0,0)) (nth [] a0 (nN v0.1.1)) (nN s.1.1)).1 4) (bd (e.ab L J (nth (0,(0,0)) (nth [] a0 (nN v0.1.1)) (nN s.1.1)).2.2 0 0) (fun p5=>(br (ax p5.1.1) (some ((false,()),())) (k (((ae IntKind.i64 s.1.1 1),()),((),((),((),())))))))) none)))))))) (br (af (nth (0,(0,0)) (nth [] a0 (nN v0.1.1)) (nN s.1.1)).1 1) (bd (e.ab L J (nth (0,(0,0)) (nth [] a0 (nN v0.1.1)) (nN s.1.1)).2.1 0 5) (fun p6=>(br (ax p6.1.1) (some ((false,()),())) (br (af (nth (0,(0,0)) (nth [] a0 (nN v0.1.1)) (nN s.1.1)).1 0) (bd (e.ab L J (nth (0,(0,0)) (nth [] a0 (nN v0.1.1)) (nN s.1.1)).2.2 0 0) (fun p7=>(br (ax p7.1.1) (some ((false,()),())) (k (((ae IntKind.i64 s.1.1 1),()),((),((),((),())))))))) (br (af (nth (0,(0,0)) (nth [] a0 (nN v0.1.1)) (nN s.1.1)).1 1) (bd (e.ab L J (nth (0,(0,0)) (nth [] a0 (nN v0.1.1)) (nN s.1.1)).2.2 0 0) (fun p8=>(br (ax p8.1.1) (some ((false,()),())) (k (((ae IntKind.i64 s.1.1 1),()),((),((),((),())))))))) (br (af (nth (0,(0,0)) (nth [] a0 (nN v0.1.1)) (nN s.1.1)).1 2) (bd (e.ab L J (nth (0,(0,0)) (nth [] a0 (nN v0.1.1)) (nN s.1.1)).2.2 0 5) (fun p9=>(br (ax p9.1.1) (some ((false,()),())) (k (((ae IntKind.i64 s.1.1 1),()),((),((),((),())))))))) (br (af (nth (0,(0,0)) (nth [] a0 (nN v0.1.1)) (nN s.1.1)).1 3) (bd (e.ab L J (nth (0,(0,0)) (nth [] a0 (nN v0.1.1)) (nN s.1.1)).2.2 0 8) (fun gB=>(br (ax gB.1.1) (some ((false,()),())) (k (((ae IntKind.i64 s.1.1 1),()),((),((),((),())))))))) (br (af (nth (0,(0,0)) (nth [] a0 (nN v0.1.1)) (nN s.1.1)).1 4) (bd (e.ab L J (nth (0,(0,0)) (nth [] a0 (nN v0.1.1)) (nN s.1.1)).2.2 0 0) (fun lL=>(br (ax lL.1.1) (some ((false,()),())) (k (((ae IntKind.i64 s.1.1 1),()),((),((),((),())))))))) none)))))))) (br (af (nth (0,(0,0)) (nth [] a0 (nN v0.1.1)) (nN s.1.1)).1 2) (bd (e.ab L J (nth (0,(0,0)) (nth [] a0 (nN v0.1.1)) (nN s.1.1)).2.1 0 5) (fun cu=>(br (ax cu.1.1) (some ((false,()),())) (br (af (nth (0,(0,0)) (nth [] a0 (nN v0.1.1)) (nN s.1.1)).1 0) (bd (e.ab L J (nth (0,(0,0)) (nth [] a0 (nN v0.1.1)) (nN s.1.1)).2.2 0 0) (fun cw=>(br (ax cw.1.1) (some ((false,()),())) (k (((ae IntKind.i64 s.1.1 1),()),((),((),((),())))))))) (br (af (nth (0,(0,0)) (nth [] a0 (nN v0.1.1)) (nN s.1.1)).1 1) (bd (e.ab L J (nth (0,(0,0)) (nth [] a0 (nN v0.1.1)) (nN s.1.1)).2.2 0 0) (fun kg=>(br (ax kg.1.1) (some ((false,()),())) (k (((ae IntKind.i64 s.1.1 1),()),((),((),((),())))))))) (br (af (nth (0,(0,0)) (nth [] a0 (nN v0.1.1)) (nN s.1.1)).1 2) (bd (e.ab L J (nth (0,(0,0)) (nth [] a0 (nN v0.1.1)) (nN s.1.1)).2.2 0 5) (fun dM=>(br (ax dM.1.1) (some ((false,()),())) (k (((ae IntKind.i64 s.1.1 1),()),((),((),((),())))))))) (br (af (nth (0,(0,0)) (nth [] a0 (nN v0.1.1)) (nN s.1.1)).1 3) (bd (e.ab L J (nth (0,(0,0)) (nth [] a0 (nN v0.1.1)) (nN s.1.1)).2.2 0 8) (fun fb=>(br (ax fb.1.1) (some ((false,()),())) (k (((ae IntKind.i64 s.1.1 1),()),((),((),((),())))))))) (br (af (nth (0,(0,0)) (nth [] a0 (nN v0.1.1)) (nN s.1.1)).1 4) (bd (e.ab L J (nth (0,(0,0)) (nth [] a0 (nN v0.1.1)) (nN s.1.1)).2.2 0 0) (fun gx=>(br (ax gx.1.1) (some ((false,()),())) (k (((ae IntKind.i64 s.1.1 1),()),((),((),((),())))))))) none)))))))) (br (af (nth (0,(0,0)) (nth [] a0 (nN v0.1.1)) (nN s.1.1)).1 3) (bd (e.ab L J (nth (0,(0,0)) (nth [] a0 (nN v0.1.1)) (nN s.1.1)).2.1 0 5) (fun fI=>(br (ax fI.1.1) (some ((false,()),())) (br (af (nth (0,(0,0)) (nth [] a0 (nN v0.1.1)) (nN s.1.1)).1 0) (bd (e.ab L J (nth (0,(0,0)) (nth [] a0 (nN v0.1.1)) (nN s.1.1)).2.2 0 0) (fun kQ=>(br (ax kQ.1.1) (some ((false,()),())) (k (((ae IntKind.i64 s.1.1 1),()),((),((),((),())))))))) (br (af (nth (0,(0,0)) (nth [] a0 (nN v0.1.1)) (nN s.1.1)).1 1) (bd (e.ab L J (nth (0,(0,0)) (nth [] a0 (nN v0.1.1)) (nN s.1.1)).2.2 0 0) (fun dW=>(br (ax dW.1.1) (some ((false,()),())) (k (((ae IntKind.i64 s.1.1 1),()),((),((),((),())))))))) (br (af (nth (0,(0,0)) (nth [] a0 (nN v0.1.1)) (nN s.1.1)).1 2) (bd (e.ab L J (nth (0,(0,0)) (nth [] a0 (nN v0.1.1)) (nN s.1.1)).2.2 0 5) (fun l8=>(br (ax l8.1.1) (some ((false,()),())) (k (((ae IntKind.i64 s.1.1 1),()),((),((),((),())))))))) (br (af (nth (0,(0,0)) (nth [] a0 (nN v0.1.1)) (nN s.1.1)).1 3) (bd (e.ab L J (nth (0,(0,0)) (nth [] a0 (nN v0.1.1)) (nN s.1.1)).2.2 0 8) (fun iR=>(br (ax iR.1.1) (some ((false,()),())) (k (((ae IntKind.i64 s.1.1 1),()),((),((),((),())))))))) (br (af (nth (0,(0,0)) (nth [] a0 (nN v0.1.1)) (nN s.1.1)).1 4) (bd (e.ab L J (nth (0,(0,0)) (nth [] a0 (nN v0.1.1)) (nN s.1.1)).2.2 0 0) (fun fq=>(br (ax fq.1.1) (some ((false,()),())) (k (((ae IntKind.i64 s.1.1 1),()),((),((),((),())))))))) none)))))))) (br (af (nth (0,(0,0)) (nth [] a0 (nN v0.1.1)) (nN s.1.1)).1 4) (bd (e.ab L J (nth (0,(0,0)) (nth [] a0 (nN v0.1.1)) (nN s.1.1)).2.1 0 0) (fun ju=>(br (ax ju.1.1) (some ((false,()),())) (br (af (nth (0,(0,0)) (nth [] a0 (nN v0.1.1)) (nN s.1.1)).1 0) (bd (e.ab L J (nth (0,(0,0)) (nth [] a0 (nN v0.1.1)) (nN s.1.1)).2.2 0 0) (fun fg=>(br (ax fg.1.1) (some ((false,()),())) (k (((ae IntKind.i64 s.1.1 1),()),((),((),((),())))))))) (br (af (nth (0,(0,0)) (nth [] a0 (nN v0.1.1)) (nN s.1.1)).1 1) (bd (e.ab L J (nth (0,(0,0)) (nth [] a0 (nN v0.1.1)) (nN s.1.1)).2.2 0 0) (fun eK=>(br (ax eK.1.1) (some ((false,()),())) (k (((ae IntKind.i64 s.1.1 1),()),((),((),((),())))))))) (br (af (nth (0,(0,0)) (nth [] a0 (nN v0.1.1)) (nN s.1.1)).1 2) (bd (e.ab L J (nth (0,(0,0)) (nth [] a0 (nN v0.1.1)) (nN s.1.1)).2.2 0 5) (fun lU=>(br (ax lU.1.1) (some ((false,()),())) (k (((ae IntKind.i64 s.1.1 1),()),((),((),((),())))))))) (br (af (nth (0,(0,0)) (nth [] a0 (nN v0.1.1)) (nN s.1.1)).1 3) (bd (e.ab L J (nth (0,(0,0)) (nth [] a0 (nN v0.1.1)) (nN s.1.1)).2.2 0 8) (fun lZ=>(br (ax lZ.1.1) (some ((false,()),())) (k (((ae IntKind.i64 s.1.1 1),()),((),((),((),())))))))) (br (af (nth (0,(0,0)) (nth [] a0 (nN v0.1.1)) (nN s.1.1)).1 4) (bd (e.ab L J (nth (0,(0,0)) (nth [] a0 (nN v0.1.1)) (nN s.1.1)).2.2 0 0) (fun jm=>(br (ax jm.1.1) (some ((false,()),())) (k (((ae IntKind.i64 s.1.1 1),()),((),((),((),())))))))) none)))))))) none)))))))) (br (aY 8 (zN (len (nth [] a0 (nN v0.1.1))))) (some ((false,()),())) (v1 (((ae IntKind.i64 v0.1.1 1),()),((),((),((),())))))))
def e.ik (L:gY) (J:gZ) (a0:(List (List U4))) (k:(U9→mU)) (s:U9):mU:=(br (aY s.1.1 (zN (len a0))) (gd (bn s.1.1) (gd (bp (nN s.1.1) (len a0)) (L _ _ (e.gW L J a0 s k) ((0,()),((),((),((),()))))))) (some (((dn (zN (len a0)) 8),()),())))
def e.jI (L:gY) (J:gZ) (a0:(List (List U4))):mU:=(L _ _ (e.ik L J a0) ((0,()),((),((),((),())))))
def e.bV (L:gY) (J:gZ) (a0:(Int×U4)):(Option (((Int×Int)×(Int×Unit))×Unit)):=(bd (e.e_ L J a0) (fun p0=>(br (ax p0.1.1) (some (((0,0),(1,())),())) (some ((((dG IntKind.i64 a0.1 64),a0.2.2.1),(0,())),())))))
def e.fZ (L:gY) (J:gZ) (a0:(Int×U4)):(Option (((Int×Int)×(Int×Unit))×Unit)):=(bd (e.bV L J a0) (fun p0=>(br (ax (af p0.1.2.1 0)) (some (((0,0),(p0.1.2.1,())),())) (some ((((ae IntKind.i64 p0.1.1.1 p0.1.1.2),a0.2.2.2),(0,())),())))))
def e.jF (L:gY) (J:gZ) (a0:(Int×U4)):(Option (lb×Unit)):=(bd (e.fZ L J a0) (fun p0=>(some (((ae IntKind.i64 p0.1.1.1 p0.1.1.2),(p0.1.2.1,())),()))))
def e.jL (L:gY) (J:gZ) (a0:Int) (d0:T1) (d1:T2):(Option (((Option Nat)×(Int×Unit))×(T1×(T2×Unit)))):=(bd (e.ab L J a0 0 65536) (fun p0=>(br (ax p0.1.1) (some ((none,(1,())),(d0,(d1,())))) (br (ax (af (bO a0 8) 0)) (some ((none,(1,())),(d0,(d1,())))) (gd (bn a0) (gd (bz (nN a0) 16777216) (some (((some (len d0)),(0,())),((cat d0 [(some (len d1))]),((cat d1 [(some (rep (α:=Int) (nN a0) 0))]),()))))))))))
def e.fP (L:gY) (J:gZ) (a0:Int) (a1:Int) (d0:T3) (d1:T4):(Option (((Option Nat)×(Int×Unit))×mC)):=(J _ _ (fun (k0:(Unit×U2)→_)=>(bd (e.ab L J a0 0 65536) (fun p1=>(br (ax p1.1.1) (some ((none,(1,())),(d0,(d1,())))) (bd (e.ab L J a1 0 65536) (fun p2=>(br (ax p2.1.1) (some ((none,(1,())),(d0,(d1,())))) (br (ax (af (bO (bits BinOp.or IntKind.i64 a0 a1) 8) 0)) (some ((none,(1,())),(d0,(d1,())))) (k0 ((),((),((),((),()))))))))))))) (fun (s3:(Unit×U2))=>(br (aY 0 a1) (some (((some (len d0)),(0,())),((aj (0,(0,none)) (cat d0 [(a0,((ae IntKind.i64 a0 a1),none))]) (len d0) (fun r5=>(r5.1,(r5.2.1,(some (len d1)))))),((cat d1 [(some [(a0,a1)])]),())))) (some (((some (len d0)),(0,())),((cat d0 [(a0,((ae IntKind.i64 a0 a1),none))]),(d1,())))))))
def e.cT (L:gY) (J:gZ) (a0:(Int×U4)) (a1:Int) (a2:Int):(Option (lb×Unit)):=(J _ _ (fun (k0:iu→_)=>(bd (e.e_ L J a0) (fun p1=>(br (ax p1.1.1) (k0 ((true,()),((),((),((),()))))) (bd (e.ab L J a1 0 4) (fun p2=>(k0 (((ax p2.1.1),()),((),((),((),()))))))))))) (fun (s3:iu)=>(br s3.1.1 (some ((0,(1,())),())) (bd (e.ab L J a2 0 (aE IntKind.i64 a0.1 1)) (fun p4=>(br (ax p4.1.1) (some ((0,(2,())),())) (some (((ae IntKind.i64 (dG IntKind.i64 a2 64) (dG IntKind.i64 a1 8)),(0,())),()))))))))
def e.cL (L:gY) (J:gZ) (a0:Nat) (a1:Int) (c0:T1) (c1:T2):mU:=(opt (nth none c0 a0) (bd (e.ab L J a1 0 (-8)) (fun p0=>(br p0.1.1 (some (((af (bO a1 8) 0),()),())) (some ((false,()),()))))) (fun p1=>(bd (aT c1 p1) (fun p2=>(bd (e.ab L J a1 0 (aE IntKind.i64 (zN (len p2)) 8)) (fun p3=>(br p3.1.1 (some (((af (bO a1 8) 0),()),())) (some ((false,()),())))))))))
def e.fR (L:gY) (J:gZ) (a0:Nat) (a1:Int) (a2:Int) (c0:T1) (k:(((Int×Unit)×(Unit×(Unit×(Unit×(T2×Unit)))))→(Option ((Int×Unit)×(T2×Unit))))) (s:((Int×Unit)×(Unit×(Unit×(Unit×(T2×Unit)))))):(Option ((Int×Unit)×(T2×Unit))):=(br (aY s.1.1 8) (opt (nth none c0 a0) (gd (bn (dG IntKind.i64 8 s.1.1)) none) (fun p0=>(gd (bn (dG IntKind.i64 8 s.1.1)) (bd (aT s.2.2.2.2.1 p0) (fun p1=>(gd (bn (ae IntKind.i64 a1 s.1.1)) (gd (bp (nN (ae IntKind.i64 a1 s.1.1)) (len p1)) (bd (aT s.2.2.2.2.1 p0) (fun p2=>(k (((ae IntKind.i64 s.1.1 1),()),((),((),((),((aS s.2.2.2.2.1 p0 (some (aS p2 (nN (ae IntKind.i64 a1 s.1.1)) (cy IntKind.u8 (jy IntKind.u64 a2 (dG IntKind.i64 8 s.1.1)))))),()))))))))))))))) (some ((0,()),(s.2.2.2.2.1,()))))
def e.aZ (L:gY) (J:gZ) (a0:Nat) (a1:Int) (a2:Int) (c0:T1) (d0:T2):(Option ((Int×Unit)×(T2×Unit))):=(bd (e.cL L J a0 a1 c0 d0) (fun p0=>(br (ax p0.1.1) (some ((1,()),(d0,()))) (L _ _ (e.fR L J a0 a1 a2 c0) ((0,()),((),((),((),(d0,())))))))))
def e.aD (L:gY) (J:gZ) (a0:((Option Nat)×((Int×U4)×Int))) (a1:Int) (a2:Int) (c0:T1) (d0:T2):(Option (Unit×(T2×Unit))):=(bd (e.cT L J a0.2.1 a1 a0.2.2) (fun p0=>(opt a0.1 none (fun p1=>(bd (e.aZ L J p1 p0.1.1 a2 c0 d0) (fun p2=>(some ((),(p2.2.1,())))))))))
def e.k_ (L:gY) (J:gZ) (a0:Int):pZ:=(J _ _ (fun (k0:iu→_)=>(br (af a0 0) (k0 ((true,()),((),((),((),()))))) (k0 (((af a0 1),()),((),((),((),()))))))) (fun (s1:iu)=>(br s1.1.1 (some ((0,()),())) (br (af a0 2) (some ((1,()),())) (br (af a0 3) (some ((2,()),())) (some (((-1),()),())))))))
def e.fE (L:gY) (J:gZ) (a0:(Int×U4)):mU:=(bd (e.ab L J a0.2.2.2 0 16777215) (fun p0=>(br (ax p0.1.1) (some ((false,()),())) (bd (e.k_ L J a0.1) (fun p1=>(br (af p1.1.1 0) (br (af a0.2.1 0) (some (((af a0.2.2.1 (-1)),()),())) (some ((false,()),()))) (br (af p1.1.1 1) (bd (e.ab L J a0.2.1 1 7) (fun p2=>(br p2.1.1 (bd (e.ab L J a0.2.2.1 (-1) 7) (fun p3=>(some ((p3.1.1,()),())))) (some ((false,()),()))))) (br (af p1.1.1 2) (br (af a0.2.1 0) (bd (e.ab L J a0.2.2.1 (-1) 7) (fun p4=>(some ((p4.1.1,()),())))) (some ((false,()),()))) (some ((false,()),()))))))))))
def e.gN (L:gY) (J:gZ) (a0:(Int×U4)):(Option (lb×Unit)):=(bd (e.fE L J a0) (fun p0=>(br (ax p0.1.1) (some ((0,(1,())),())) (some (((bits BinOp.or IntKind.u64 (bits BinOp.or IntKind.u64 (bits BinOp.or IntKind.u64 (cy IntKind.u64 a0.1) (lv IntKind.u64 (cy IntKind.u64 a0.2.1) 2)) (lv IntKind.u64 (cy IntKind.u64 (ae IntKind.i64 a0.2.2.1 1)) 10)) (lv IntKind.u64 (cy IntKind.u64 a0.2.2.2) 18)),(0,())),())))))
def e.bG (L:gY) (J:gZ) (a0:((Option Nat)×((Int×U4)×Int))) (a1:(Int×U4)) (c0:T1) (d0:T2):(Option (Unit×(T2×Unit))):=(bd (e.gN L J a1) (fun p0=>(bd (e.aD L J a0 0 p0.1.1 c0 d0) (fun p1=>(some ((),(p1.2.1,())))))))
def e.jH (L:gY) (J:gZ) (a0:(Int×U4)) (d0:T1) (d1:T2) (d2:T3) (d3:T4):(Option (((Option Nat)×((Option Nat)×(Int×Unit)))×(T1×(T2×mC)))):=(bd (e.jF L J a0) (fun p0=>(br (ax (af p0.1.2.1 0)) (some ((none,(none,(p0.1.2.1,()))),(d0,(d1,(d2,(d3,())))))) (bd (e.jL L J p0.1.1 d0 d1) (fun p1=>(opt p1.1.1 (bd (e.fZ L J a0) (fun p2=>(bd (e.fP L J p2.1.1.1 p2.1.1.2 d2 d3) (fun p3=>(opt p3.1.1 (bd (e.bV L J a0) (fun p4=>(bd (e.bG L J (none,(a0,0)) (2,(1,((-1),0))) p1.2.1 p1.2.2.1) (fun p5=>(bd (e.aD L J (none,(a0,0)) 1 (cy IntKind.u64 p4.1.1.1) p1.2.1 p5.2.1) (fun p6=>(bd (e.aD L J (none,(a0,0)) 2 (cy IntKind.u64 p4.1.1.2) p1.2.1 p6.2.1) (fun p7=>(some ((none,(none,(0,()))),(p1.2.1,(p7.2.1,(p3.2.1,(p3.2.2.1,())))))))))))))) (fun p8=>(bd (e.bV L J a0) (fun p9=>(bd (e.bG L J (none,(a0,0)) (2,(1,((-1),0))) p1.2.1 p1.2.2.1) (fun gB=>(bd (e.aD L J (none,(a0,0)) 1 (cy IntKind.u64 p9.1.1.1) p1.2.1 gB.2.1) (fun lL=>(bd (e.aD L J (none,(a0,0)) 2 (cy IntKind.u64 p9.1.1.2) p1.2.1 lL.2.1) (fun cu=>(some ((none,((some p8),(0,()))),(p1.2.1,(cu.2.1,(p3.2.1,(p3.2.2.1,())))))))))))))))))))) (fun cw=>(bd (e.fZ L J a0) (fun kg=>(bd (e.fP L J kg.1.1.1 kg.1.1.2 d2 d3) (fun dM=>(opt dM.1.1 (bd (e.bV L J a0) (fun fb=>(bd (e.bG L J ((some cw),(a0,0)) (2,(1,((-1),0))) p1.2.1 p1.2.2.1) (fun gx=>(bd (e.aD L J ((some cw),(a0,0)) 1 (cy IntKind.u64 fb.1.1.1) p1.2.1 gx.2.1) (fun fI=>(bd (e.aD L J ((some cw),(a0,0)) 2 (cy IntKind.u64 fb.1.1.2) p1.2.1 fI.2.1) (fun kQ=>(some (((some cw),(none,(0,()))),(p1.2.1,(kQ.2.1,(dM.2.1,(dM.2.2.1,())))))))))))))) (fun dW=>(bd (e.bV L J a0) (fun l8=>(bd (e.bG L J ((some cw),(a0,0)) (2,(1,((-1),0))) p1.2.1 p1.2.2.1) (fun iR=>(bd (e.aD L J ((some cw),(a0,0)) 1 (cy IntKind.u64 l8.1.1.1) p1.2.1 iR.2.1) (fun fq=>(bd (e.aD L J ((some cw),(a0,0)) 2 (cy IntKind.u64 l8.1.1.2) p1.2.1 fq.2.1) (fun ju=>(some (((some cw),((some dW),(0,()))),(p1.2.1,(ju.2.1,(dM.2.1,(dM.2.2.1,())))))))))))))))))))))))))))
def e.eN (L:gY) (J:gZ) (a0:(List U4)):(Option (((List U4)×Unit)×Unit)):=(gd (bz (aK 0 (len a0)) 16777216) (some (((cat [] a0),()),())))
def e.fY (L:gY) (J:gZ) (a0:(List (Int×(Int×(Int×(Int×U4)))))):(Option (((List (Int×(Int×(Int×(Int×U4)))))×Unit)×Unit)):=(gd (bz (aK 0 (len a0)) 16777216) (some (((cat [] a0),()),())))
def e.jr (L:gY) (J:gZ) (a0:(Int×U4)) (a2:U6) (d0:T0) (v0:(((Option Nat)×((Option Nat)×(Int×Unit)))×(T1×(T2×mC)))) (v1:((Int×Unit)×(Unit×(Unit×(Unit×(T0×(T9×Unit))))))) (k:(((Int×Unit)×(Unit×(Unit×(Unit×(T0×(T5×(T6×(T2×Unit))))))))→(Option U8))) (s:((Int×Unit)×(Unit×(Unit×(Unit×(T0×(T5×(T6×(T2×Unit))))))))):(Option U8):=(br (aY s.1.1 a0.2.1) (J _ _ (fun (k0:(Unit×(Unit×(Unit×(Unit×(T6×Unit)))))→_)=>(br (aY s.1.1 (zN (len a2))) (gd (bn s.1.1) (gd (bp (nN s.1.1) (len a2)) (bd (e.fY L J (nth [] a2 (nN s.1.1))) (fun p1=>(k0 ((),((),((),((),((aj aF (cat s.2.2.2.2.2.2.1 [([],((some (len s.2.2.2.2.2.2.2.1)),([],(((0,(0,(0,(0,(0,(0,0)))))),(0,(0,(0,(0,([],(0,(0,(0,(0,([],(0,([],(0,(false,(false,(false,(0,(0,[]))))))))))))))))))),(false,0)))))]) (len s.2.2.2.2.2.2.1) (fun r2=>(p1.1.1,r2.2))),())))))))))) (k0 ((),((),((),((),((cat s.2.2.2.2.2.2.1 [([],((some (len s.2.2.2.2.2.2.2.1)),([],(((0,(0,(0,(0,(0,(0,0)))))),(0,(0,(0,(0,([],(0,(0,(0,(0,([],(0,([],(0,(false,(false,(false,(0,(0,[]))))))))))))))))))),(false,0)))))]),())))))))) (fun (s3:(Unit×(Unit×(Unit×(Unit×(T6×Unit))))))=>(opt (nth bB s.2.2.2.2.1 (len d0)).2.2.2.2.1 (gd (bz (len [(some (len s.2.2.2.2.2.2.1))]) 16777216) (k (((ae IntKind.i64 s.1.1 1),()),((),((),((),((aj bB s.2.2.2.2.1 (len d0) (fun r4=>(r4.1,(r4.2.1,(r4.2.2.1,(r4.2.2.2.1,((some (len s.2.2.2.2.2.1)),r4.2.2.2.2.2))))))),((cat s.2.2.2.2.2.1 [(some [(some (len s.2.2.2.2.2.2.1))])]),(s3.2.2.2.2.1,((cat s.2.2.2.2.2.2.2.1 [(some (rep (α:=Int) 4 0))]),())))))))))) (fun p5=>(bd (aT s.2.2.2.2.2.1 p5) (fun p6=>(gd (bz (aK (len p6) (len [(some (len s.2.2.2.2.2.2.1))])) 16777216) (gd (bp p5 (len s.2.2.2.2.2.1)) (k (((ae IntKind.i64 s.1.1 1),()),((),((),((),((aj bB s.2.2.2.2.1 (len d0) (fun r7=>(r7.1,(r7.2.1,(r7.2.2.1,(r7.2.2.2.1,((some (len (aS s.2.2.2.2.2.1 p5 none))),r7.2.2.2.2.2))))))),((cat (aS s.2.2.2.2.2.1 p5 none) [(some (cat p6 [(some (len s.2.2.2.2.2.2.1))]))]),(s3.2.2.2.2.1,((cat s.2.2.2.2.2.2.2.1 [(some (rep (α:=Int) 4 0))]),()))))))))))))))))) (some (((some (len d0)),(0,())),(s.2.2.2.2.1,(v0.2.1,(v0.2.2.1,(v0.2.2.2.1,(v0.2.2.2.2.1,(s.2.2.2.2.2.1,(s.2.2.2.2.2.2.1,(s.2.2.2.2.2.2.2.1,(v1.2.2.2.2.2.1,()))))))))))))
def e.du (L:gY) (J:gZ) (a0:(Int×U4)) (a1:(List (List U4))) (a2:U6) (d0:T0) (d5:T5) (d6:T6) (d7:T2) (v0:(((Option Nat)×((Option Nat)×(Int×Unit)))×(T1×(T2×mC)))) (k:(((Int×Unit)×(Unit×(Unit×(Unit×(T0×(T9×Unit))))))→(Option U8))) (s:((Int×Unit)×(Unit×(Unit×(Unit×(T0×(T9×Unit))))))):(Option U8):=(br (aY s.1.1 (zN (len a1))) (gd (bn s.1.1) (gd (bp (nN s.1.1) (len a1)) (opt (nth bB s.2.2.2.2.1 (len d0)).2.1 (bd (e.eN L J (nth [] a1 (nN s.1.1))) (fun p0=>(gd (bz (len [p0.1.1]) 16777216) (k (((ae IntKind.i64 s.1.1 1),()),((),((),((),((aj bB s.2.2.2.2.1 (len d0) (fun r1=>(r1.1,((some (len s.2.2.2.2.2.1)),r1.2.2)))),((cat s.2.2.2.2.2.1 [(some [p0.1.1])]),())))))))))) (fun p2=>(bd (e.eN L J (nth [] a1 (nN s.1.1))) (fun p3=>(bd (aT s.2.2.2.2.2.1 p2) (fun p4=>(gd (bz (aK (len p4) (len [p3.1.1])) 16777216) (gd (bp p2 (len s.2.2.2.2.2.1)) (k (((ae IntKind.i64 s.1.1 1),()),((),((),((),((aj bB s.2.2.2.2.1 (len d0) (fun r5=>(r5.1,((some (len (aS s.2.2.2.2.2.1 p2 none))),r5.2.2)))),((cat (aS s.2.2.2.2.2.1 p2 none) [(some (cat p4 [p3.1.1]))]),()))))))))))))))))) (L _ _ (e.jr L J a0 a2 d0 v0 s) ((0,()),((),((),((),(s.2.2.2.2.1,(d5,(d6,(d7,()))))))))))
def e.jq (L:gY) (J:gZ) (a2:U6) (d0:T0) (d1:T1) (d2:T2) (d3:T3) (d4:T4) (d5:T5) (d6:T6) (d7:T2) (d8:T9) (v0:(Unit×U2)→(Option U8)) (k:(U9→(Option U8))) (s:U9):(Option U8):=(br (aY s.1.1 (zN (len a2))) (gd (bn s.1.1) (gd (bp (nN s.1.1) (len a2)) (br (aY 64 (zN (len (nth [] a2 (nN s.1.1))))) (br (dn 0 s.1.1) (some ((none,(1,())),(d0,(d1,(d2,(d3,(d4,(d5,(d6,(d7,(d8,()))))))))))) (v0 ((),((),((),((),())))))) (k (((ae IntKind.i64 s.1.1 1),()),((),((),((),())))))))) (v0 ((),((),((),((),()))))))
def e.iC (L:gY) (J:gZ) (a0:(Int×U4)) (a1:(List (List U4))) (a2:U6) (c0:T7) (d0:T0) (d1:T1) (d2:T2) (d3:T3) (d4:T4) (d5:T5) (d6:T6) (d7:T2) (d8:T9):(Option U8):=(J _ _ (fun (k0:(Unit×U2)→_)=>(bd (e.e_ L J a0) (fun p1=>(br (ax p1.1.1) (some ((none,(1,())),(d0,(d1,(d2,(d3,(d4,(d5,(d6,(d7,(d8,()))))))))))) (bd (e.jI L J a1) (fun p2=>(br (ax p2.1.1) (some ((none,(1,())),(d0,(d1,(d2,(d3,(d4,(d5,(d6,(d7,(d8,()))))))))))) (br (aY a0.2.1 (zN (len a2))) (some ((none,(1,())),(d0,(d1,(d2,(d3,(d4,(d5,(d6,(d7,(d8,()))))))))))) (L _ _ (e.jq L J a2 d0 d1 d2 d3 d4 d5 d6 d7 d8 k0) ((0,()),((),((),((),()))))))))))))) (fun (s5:(Unit×U2))=>(bd (e.jH L J a0 d1 d2 d3 d4) (fun p6=>(opt p6.1.1 (opt p6.1.2.1 (L _ _ (e.du L J a0 a1 a2 d0 d5 d6 d7 p6) ((0,()),((),((),((),((cat d0 [(a0,(none,(none,(none,(none,(none,0))))))]),(d8,()))))))) (fun dW=>(L _ _ (e.du L J a0 a1 a2 d0 d5 d6 d7 p6) ((0,()),((),((),((),((cat d0 [(a0,(none,(none,((some dW),(none,(none,0))))))]),(d8,()))))))))) (fun vn=>(opt p6.1.2.1 (L _ _ (e.du L J a0 a1 a2 d0 d5 d6 d7 p6) ((0,()),((),((),((),((cat d0 [(a0,(none,((some vn),(none,(none,(none,0))))))]),(d8,()))))))) (fun Al=>(L _ _ (e.du L J a0 a1 a2 d0 d5 d6 d7 p6) ((0,()),((),((),((),((cat d0 [(a0,(none,((some vn),((some Al),(none,(none,0))))))]),(d8,())))))))))))))))
def e.bx (L:gY) (J:gZ) (a0:Nat) (c0:T6) (c1:T2):mU:=(br (ax (nth aF c0 a0).2.2.2.2.1) (some (((af (zN (len (nth aF c0 a0).1)) 0),()),())) (some ((false,()),())))
def e.bE (L:gY) (J:gZ) (a0:nS):(Option ((nS×Unit)×Unit)):=(gd (bz (aK 0 (len a0)) 16777216) (some (((cat [] a0),()),())))
def e.cD (L:gY) (J:gZ) (a0:nS):pZ:=(br (af (zN (len a0)) 0) (some ((0,()),())) (gd (bn (aE IntKind.i64 (zN (len a0)) 1)) (gd (bp (nN (aE IntKind.i64 (zN (len a0)) 1)) (len a0)) (some (((nth (0,false) a0 (nN (aE IntKind.i64 (zN (len a0)) 1))).1,()),())))))
def e.bT (L:gY) (J:gZ) (a0:nS) (a1:(Int×Bool)):(Option ((nS×(Int×Unit))×Unit)):=(br (dn 6 (zN (len a0))) (some (([],(24,())),())) (gd (bn (ae IntKind.i64 (zN (len a0)) 1)) (gd (bz (nN (ae IntKind.i64 (zN (len a0)) 1)) 16777216) (gd (bp 0 (len (rep (α:=(Int×Bool)) (nN (ae IntKind.i64 (zN (len a0)) 1)) (0,false)))) (gd (bz (len a0) (len (rep (α:=(Int×Bool)) (nN (ae IntKind.i64 (zN (len a0)) 1)) (0,false)))) (gd (bn (zN (len a0))) (gd (bp (nN (zN (len a0))) (len (cat a0 (dr (len a0) (rep (α:=(Int×Bool)) (nN (ae IntKind.i64 (zN (len a0)) 1)) (0,false)))))) (some (((aS (cat a0 (dr (len a0) (rep (α:=(Int×Bool)) (nN (ae IntKind.i64 (zN (len a0)) 1)) (0,false)))) (nN (zN (len a0))) a1),(0,())),())))))))))
def e.hO (L:gY) (J:gZ) (a0:nS):(Option ((nS×((Int×Bool)×(Int×Unit)))×Unit)):=(br (aY (aE IntKind.i64 (zN (len a0)) 1) 0) (some (([],((0,false),(23,()))),())) (gd (bn (aE IntKind.i64 (zN (len a0)) 1)) (gd (bz 0 (nN (aE IntKind.i64 (zN (len a0)) 1))) (gd (bz (nN (aE IntKind.i64 (zN (len a0)) 1)) (len a0)) (bd (e.bE L J (tk (aw (nN (aE IntKind.i64 (zN (len a0)) 1)) 0) (dr 0 a0))) (fun p0=>(gd (bn (aE IntKind.i64 (zN (len a0)) 1)) (gd (bp (nN (aE IntKind.i64 (zN (len a0)) 1)) (len a0)) (some ((p0.1.1,((nth (0,false) a0 (nN (aE IntKind.i64 (zN (len a0)) 1))),(0,()))),()))))))))))
def e.hJ (L:gY) (J:gZ) (a0:nS) (a1:Int) (k:(U9→pZ)) (s:U9):pZ:=(br (aY s.1.1 (zN (len a0))) (gd (bn s.1.1) (gd (bp (nN s.1.1) (len a0)) (br (mz (af a1 (nth (0,false) a0 (nN s.1.1)).1) (mz (rG true (nth (0,false) a0 (nN s.1.1)).2) true)) (some ((s.1.1,()),())) (k (((ae IntKind.i64 s.1.1 1),()),((),((),((),())))))))) (some (((-1),()),())))
def e.j6 (L:gY) (J:gZ) (a0:nS) (a1:Int):pZ:=(L _ _ (e.hJ L J a0 a1) ((0,()),((),((),((),())))))
def e.bg (L:gY) (J:gZ) (a0:nS) (a1:Int):mU:=(br (af a1 0) (some ((true,()),())) (bd (e.j6 L J a0 a1) (fun p0=>(some (((dn 0 p0.1.1),()),())))))
def e.im (L:gY) (J:gZ) (a0:(List Int)) (k:(U9→mU)) (s:U9):mU:=(br (aY s.1.1 (zN (len a0))) (gd (bn s.1.1) (gd (bp (nN s.1.1) (len a0)) (br (dn 4 (nth 0 a0 (nN s.1.1))) (some (((ax (dn 0 s.1.1)),()),())) (k (((ae IntKind.i64 s.1.1 1),()),((),((),((),())))))))) (some ((true,()),())))
def e.bM (L:gY) (J:gZ) (a0:(List Int)):mU:=(L _ _ (e.im L J a0) ((0,()),((),((),((),())))))
def e.iq (L:gY) (J:gZ) (a0:(List Int)) (k:(U9→pZ)) (s:U9):pZ:=(br (aY s.1.1 (zN (len a0))) (gd (bn s.1.1) (gd (bp (nN s.1.1) (len a0)) (br (ax (af (nth 0 a0 (nN s.1.1)) 0)) (some (((nth 0 a0 (nN s.1.1)),()),())) (k (((ae IntKind.i64 s.1.1 1),()),((),((),((),())))))))) (some ((0,()),())))
def e.av (L:gY) (J:gZ) (a0:(List Int)):pZ:=(L _ _ (e.iq L J a0) ((0,()),((),((),((),())))))
def e.mM (L:gY) (J:gZ) (a0:Int) (a1:Int):(Option (lb×Unit)):=(br (ax (rG (aY a0 (ae IntKind.i64 a0 a1)) (aY 0 a1))) (some ((0,(3,())),())) (some (((ae IntKind.i64 a0 a1),(0,())),())))
def e.nz (L:gY) (J:gZ) (a0:Int):(Option (lb×Unit)):=(br (aY a0 0) (some ((0,(1,())),())) (bd (e.mM L J a0 7) (fun p0=>(br (ax (af p0.1.2.1 0)) (some ((0,(p0.1.2.1,())),())) (some (((bits BinOp.andNot IntKind.i64 p0.1.1 7),(0,())),()))))))
def e.bD (L:gY) (J:gZ) (a0:((Int×U4)×(nS×((Int×(Int×(Int×(Int×U4))))×(Int×Int))))):pZ:=(br (af a0.2.2.1.1 0) (some ((0,()),())) (br (af a0.2.2.1.1 1) (bd (e.bM L J [a0.2.2.1.2.1]) (fun p0=>(br (ax p0.1.1) (some ((1,()),())) (some ((0,()),()))))) (br (af a0.2.2.1.1 2) (bd (e.ab L J a0.2.2.1.2.2.2.2.1 1 8192) (fun p1=>(br (ax p1.1.1) (some ((1,()),())) (some ((0,()),()))))) (br (af a0.2.2.1.1 3) (bd (e.ab L J a0.2.2.1.2.2.2.2.1 1 (aE IntKind.i64 a0.1.1 1)) (fun p2=>(br (ax p2.1.1) (some ((11,()),())) (some ((0,()),()))))) (br (af a0.2.2.1.1 4) (bd (e.ab L J a0.2.2.1.2.2.2.2.1 1 (aE IntKind.i64 a0.1.1 1)) (fun p3=>(br (ax p3.1.1) (bd (e.bT L J a0.2.1 (0,false)) (fun p4=>(bd (e.av L J [11,p4.1.2.1]) (fun p5=>(some ((p5.1.1,()),())))))) (bd (e.bT L J a0.2.1 (0,false)) (fun p6=>(bd (e.av L J [0,p6.1.2.1]) (fun p7=>(some ((p7.1.1,()),()))))))))) (br (af a0.2.2.1.1 6) (bd (e.ab L J a0.2.2.1.2.2.2.2.1 0 (aE IntKind.i64 a0.1.1 1)) (fun p8=>(br (ax p8.1.1) (bd (e.bg L J a0.2.1 a0.2.2.1.2.2.2.2.1) (fun p9=>(br (ax p9.1.1) (bd (e.bT L J a0.2.1 (0,false)) (fun gB=>(bd (e.av L J [11,20,gB.1.2.1]) (fun lL=>(some ((lL.1.1,()),())))))) (bd (e.bT L J a0.2.1 (0,false)) (fun cu=>(bd (e.av L J [11,0,cu.1.2.1]) (fun cw=>(some ((cw.1.1,()),()))))))))) (bd (e.bg L J a0.2.1 a0.2.2.1.2.2.2.2.1) (fun kg=>(br (ax kg.1.1) (bd (e.bT L J a0.2.1 (0,false)) (fun dM=>(bd (e.av L J [0,20,dM.1.2.1]) (fun fb=>(some ((fb.1.1,()),())))))) (bd (e.bT L J a0.2.1 (0,false)) (fun gx=>(bd (e.av L J [0,0,gx.1.2.1]) (fun fI=>(some ((fI.1.1,()),())))))))))))) (br (af a0.2.2.1.1 5) (bd (e.hO L J a0.2.1) (fun kQ=>(some ((kQ.1.2.2.1,()),())))) (br (af a0.2.2.1.1 7) (bd (g.gF a0.2.2.1.2.2.2.2.1 a0.2.2.1.2.2.2.2.2.1) (fun dW=>(bd (e.bM L J [a0.2.2.1.2.1]) (fun l8=>(br l8.1.1 (bd (e.ab L J a0.2.2.1.2.2.2.2.2.2 0 7) (fun iR=>(br (ax iR.1.1) (bd (e.av L J [1,dW.1.2.1]) (fun fq=>(some ((fq.1.1,()),())))) (bd (e.av L J [0,dW.1.2.1]) (fun ju=>(some ((ju.1.1,()),()))))))) (bd (e.av L J [1,dW.1.2.1]) (fun fg=>(some ((fg.1.1,()),()))))))))) (br (af a0.2.2.1.1 8) (bd (e.bM L J [a0.2.2.1.2.1,a0.2.2.1.2.2.1]) (fun eK=>(br (ax eK.1.1) (bd (g.cG a0.1 a0.2.1 a0.2.2.2.1) (fun lU=>(bd (e.av L J [1,lU.1.2.1]) (fun lZ=>(some ((lZ.1.1,()),())))))) (bd (g.cG a0.1 a0.2.1 a0.2.2.2.1) (fun jm=>(bd (e.av L J [0,jm.1.2.1]) (fun Ku=>(some ((Ku.1.1,()),()))))))))) (br (af a0.2.2.1.1 9) (bd (e.bM L J [a0.2.2.1.2.2.1,a0.2.2.1.2.2.2.1]) (fun Qn=>(br (ax Qn.1.1) (bd (g.cG a0.1 a0.2.1 a0.2.2.2.1) (fun F4=>(bd (e.av L J [1,F4.1.2.1]) (fun FZ=>(some ((FZ.1.1,()),())))))) (bd (g.cG a0.1 a0.2.1 a0.2.2.2.1) (fun vn=>(bd (e.av L J [0,vn.1.2.1]) (fun V6=>(some ((V6.1.1,()),()))))))))) (br (af a0.2.2.1.1 10) (bd (e.bM L J [a0.2.2.1.2.1]) (fun Kt=>(br (ax Kt.1.1) (bd (e.ab L J a0.2.2.1.2.2.2.2.1 1 (aE IntKind.i64 a0.1.1 1)) (fun Ks=>(br (ax Ks.1.1) (bd (e.bg L J a0.2.1 a0.2.2.1.2.2.2.2.1) (fun Kr=>(br (ax Kr.1.1) (bd (e.av L J [1,11,20]) (fun Kq=>(some ((Kq.1.1,()),())))) (bd (e.av L J [1,11,0]) (fun FY=>(some ((FY.1.1,()),()))))))) (bd (e.bg L J a0.2.1 a0.2.2.1.2.2.2.2.1) (fun Ko=>(br (ax Ko.1.1) (bd (e.av L J [1,0,20]) (fun Kn=>(some ((Kn.1.1,()),())))) (bd (e.av L J [1,0,0]) (fun b_=>(some ((b_.1.1,()),())))))))))) (bd (e.ab L J a0.2.2.1.2.2.2.2.1 1 (aE IntKind.i64 a0.1.1 1)) (fun Km=>(br (ax Km.1.1) (bd (e.bg L J a0.2.1 a0.2.2.1.2.2.2.2.1) (fun V5=>(br (ax V5.1.1) (bd (e.av L J [0,11,20]) (fun An=>(some ((An.1.1,()),())))) (bd (e.av L J [0,11,0]) (fun Am=>(some ((Am.1.1,()),()))))))) (bd (e.bg L J a0.2.1 a0.2.2.1.2.2.2.2.1) (fun Al=>(br (ax Al.1.1) (bd (e.av L J [0,0,20]) (fun Kl=>(some ((Kl.1.1,()),())))) (bd (e.av L J [0,0,0]) (fun FX=>(some ((FX.1.1,()),()))))))))))))) (br (af a0.2.2.1.1 11) (J _ _ (fun (tX:U9→_)=>(bd (e.bM L J [a0.2.2.1.2.2.2.1]) (fun FV=>(br (ax FV.1.1) (bd (e.ab L J a0.2.2.1.2.2.2.2.1 1 (aE IntKind.i64 a0.1.1 1)) (fun CH=>(br (ax CH.1.1) (bd (e.bg L J a0.2.1 a0.2.2.1.2.2.2.2.1) (fun Ak=>(br (ax Ak.1.1) (bd (e.av L J [1,11,20]) (fun wL=>(tX ((wL.1.1,()),((),((),((),()))))))) (bd (e.av L J [1,11,0]) (fun vm=>(tX ((vm.1.1,()),((),((),((),())))))))))) (bd (e.bg L J a0.2.1 a0.2.2.1.2.2.2.2.1) (fun E0=>(br (ax E0.1.1) (bd (e.av L J [1,0,20]) (fun yq=>(tX ((yq.1.1,()),((),((),((),()))))))) (bd (e.av L J [1,0,0]) (fun Aj=>(tX ((Aj.1.1,()),((),((),((),()))))))))))))) (bd (e.ab L J a0.2.2.1.2.2.2.2.1 1 (aE IntKind.i64 a0.1.1 1)) (fun CG=>(br (ax CG.1.1) (bd (e.bg L J a0.2.1 a0.2.2.1.2.2.2.2.1) (fun Qm=>(br (ax Qm.1.1) (bd (e.av L J [0,11,20]) (fun Ql=>(tX ((Ql.1.1,()),((),((),((),()))))))) (bd (e.av L J [0,11,0]) (fun tI=>(tX ((tI.1.1,()),((),((),((),())))))))))) (bd (e.bg L J a0.2.1 a0.2.2.1.2.2.2.2.1) (fun V4=>(br (ax V4.1.1) (bd (e.av L J [0,0,20]) (fun rV=>(tX ((rV.1.1,()),((),((),((),()))))))) (bd (e.av L J [0,0,0]) (fun FU=>(tX ((FU.1.1,()),((),((),((),()))))))))))))))))) (fun (J8:U9)=>(br (af J8.1.1 0) (br (ax (af a0.2.2.2.2 0)) (bd (g.cG a0.1 a0.2.1 a0.2.2.2.2) (fun Kk=>(some ((Kk.1.2.1,()),())))) (some ((J8.1.1,()),()))) (some ((J8.1.1,()),()))))) (some ((1,()),()))))))))))))))
def e.cB (L:gY) (J:gZ) (a0:((Int×U4)×(nS×((Int×(Int×(Int×(Int×U4))))×(Int×Int))))):pZ:=(J _ _ (fun (k0:iu→_)=>(br (af a0.2.2.1.1 2) (k0 ((true,()),((),((),((),()))))) (k0 (((af a0.2.2.1.1 3),()),((),((),((),()))))))) (fun (s1:iu)=>(br s1.1.1 (some ((1,()),())) (br (af a0.2.2.1.1 4) (some ((13,()),())) (br (af a0.2.2.1.1 5) (gd (bn (aE IntKind.i64 (zN (len a0.2.1)) 1)) (gd (bp (nN (aE IntKind.i64 (zN (len a0.2.1)) 1)) (len a0.2.1)) (br (nth (0,false) a0.2.1 (nN (aE IntKind.i64 (zN (len a0.2.1)) 1))).2 (some ((15,()),())) (some ((0,()),()))))) (J _ _ (fun (k2:iu→_)=>(br (af a0.2.2.1.1 7) (k2 ((true,()),((),((),((),()))))) (br (af a0.2.2.1.1 8) (k2 ((true,()),((),((),((),()))))) (k2 (((af a0.2.2.1.1 9),()),((),((),((),())))))))) (fun (s3:iu)=>(br s3.1.1 (some ((5,()),())) (br (af a0.2.2.1.1 10) (some ((11,()),())) (br (af a0.2.2.1.1 11) (br (af a0.2.2.2.2 0) (some ((12,()),())) (some ((7,()),()))) (some ((0,()),()))))))))))))
def e.fW (L:gY) (J:gZ) (a0:(Int×U4)) (a1:(Option Nat)) (a2:nS) (a3:(Int×(Int×(Int×(Int×U4))))) (c0:T2):(Option ((U1×Unit)×Unit)):=(br (dn 4 a3.2.2.1) (br (dn 4 a3.2.2.2.1) (bd (e.cD L J a2) (fun p0=>(bd (e.bE L J a2) (fun p1=>(bd (e.bD L J (a0,(a2,(a3,(0,0))))) (fun p2=>(br (af p2.1.1 0) (bd (e.cB L J (a0,(a2,(a3,(0,0))))) (fun p3=>(some (((a3,(p3.1.1,(p0.1.1,(0,(0,(p1.1.1,(0,(0,(0,(0,([],(0,([],(0,(false,(false,(false,(p2.1.1,(0,[]))))))))))))))))))),()),())))) (some (((a3,(0,(p0.1.1,(0,(0,(p1.1.1,(0,(0,(0,(0,([],(0,([],(0,(false,(false,(false,(p2.1.1,(0,[]))))))))))))))))))),()),()))))))))) (opt a1 none (fun p4=>(bd (aT c0 p4) (fun p5=>(gd (bn a3.2.2.2.1) (gd (bp (nN a3.2.2.2.1) (len p5)) (bd (aT c0 p4) (fun p6=>(bd (e.cD L J a2) (fun p7=>(bd (e.bE L J a2) (fun p8=>(bd (e.bD L J (a0,(a2,(a3,(0,(nth 0 p6 (nN a3.2.2.2.1))))))) (fun p9=>(br (af p9.1.1 0) (bd (e.cB L J (a0,(a2,(a3,(0,(nth 0 p6 (nN a3.2.2.2.1))))))) (fun gB=>(some (((a3,(gB.1.1,(p7.1.1,(0,((nth 0 p6 (nN a3.2.2.2.1)),(p8.1.1,(0,(0,(0,(0,([],(0,([],(0,(false,(false,(false,(p9.1.1,(0,[]))))))))))))))))))),()),())))) (some (((a3,(0,(p7.1.1,(0,((nth 0 p6 (nN a3.2.2.2.1)),(p8.1.1,(0,(0,(0,(0,([],(0,([],(0,(false,(false,(false,(p9.1.1,(0,[]))))))))))))))))))),()),())))))))))))))))))) (opt a1 none (fun lL=>(bd (aT c0 lL) (fun cu=>(gd (bn a3.2.2.1) (gd (bp (nN a3.2.2.1) (len cu)) (bd (aT c0 lL) (fun cw=>(br (dn 4 a3.2.2.2.1) (bd (e.cD L J a2) (fun kg=>(bd (e.bE L J a2) (fun dM=>(bd (e.bD L J (a0,(a2,(a3,((nth 0 cw (nN a3.2.2.1)),0))))) (fun fb=>(br (af fb.1.1 0) (bd (e.cB L J (a0,(a2,(a3,((nth 0 cw (nN a3.2.2.1)),0))))) (fun gx=>(some (((a3,(gx.1.1,(kg.1.1,((nth 0 cw (nN a3.2.2.1)),(0,(dM.1.1,(0,(0,(0,(0,([],(0,([],(0,(false,(false,(false,(fb.1.1,(0,[]))))))))))))))))))),()),())))) (some (((a3,(0,(kg.1.1,((nth 0 cw (nN a3.2.2.1)),(0,(dM.1.1,(0,(0,(0,(0,([],(0,([],(0,(false,(false,(false,(fb.1.1,(0,[]))))))))))))))))))),()),()))))))))) (opt a1 none (fun fI=>(bd (aT c0 fI) (fun kQ=>(gd (bn a3.2.2.2.1) (gd (bp (nN a3.2.2.2.1) (len kQ)) (bd (aT c0 fI) (fun dW=>(bd (e.cD L J a2) (fun l8=>(bd (e.bE L J a2) (fun iR=>(bd (e.bD L J (a0,(a2,(a3,((nth 0 cw (nN a3.2.2.1)),(nth 0 dW (nN a3.2.2.2.1))))))) (fun fq=>(br (af fq.1.1 0) (bd (e.cB L J (a0,(a2,(a3,((nth 0 cw (nN a3.2.2.1)),(nth 0 dW (nN a3.2.2.2.1))))))) (fun ju=>(some (((a3,(ju.1.1,(l8.1.1,((nth 0 cw (nN a3.2.2.1)),((nth 0 dW (nN a3.2.2.2.1)),(iR.1.1,(0,(0,(0,(0,([],(0,([],(0,(false,(false,(false,(fq.1.1,(0,[]))))))))))))))))))),()),())))) (some (((a3,(0,(l8.1.1,((nth 0 cw (nN a3.2.2.1)),((nth 0 dW (nN a3.2.2.2.1)),(iR.1.1,(0,(0,(0,(0,([],(0,([],(0,(false,(false,(false,(fq.1.1,(0,[]))))))))))))))))))),()),())))))))))))))))))))))))))))
def e.ct (L:gY) (J:gZ) (a0:(List Int)):(Option (((List Int)×Unit)×Unit)):=(gd (bz (aK 0 (len a0)) 16777216) (some (((cat [] a0),()),())))
def e.bb (L:gY) (J:gZ) (a0:U1) (a1:Int) (a2:Int):(Option ((U1×Unit)×Unit)):=(bd (e.ct L J a0.2.2.2.2.2.2.2.2.2.2.2.2.1) (fun p0=>(some (((a0.1,(a0.2.1,(a0.2.2.1,(a0.2.2.2.1,(a0.2.2.2.2.1,(a0.2.2.2.2.2.1,(a0.2.2.2.2.2.2.1,(a0.2.2.2.2.2.2.2.1,(a0.2.2.2.2.2.2.2.2.1,(a0.2.2.2.2.2.2.2.2.2.1,(a0.2.2.2.2.2.2.2.2.2.2.1,(a0.2.2.2.2.2.2.2.2.2.2.2.1,(a0.2.2.2.2.2.2.2.2.2.2.2.2.1,(a0.2.2.2.2.2.2.2.2.2.2.2.2.2.1,(a0.2.2.2.2.2.2.2.2.2.2.2.2.2.2.1,(true,(true,(a1,(a2,p0.1.1))))))))))))))))))),()),()))))
def e.fl (L:gY) (J:gZ) (a0:Nat) (a1:Int) (c0:T1) (c1:T2) (k:((lb×U2)→(Option (lb×Unit)))) (s:(lb×U2)):(Option (lb×Unit)):=(br (aY s.1.2.1 8) (opt (nth none c0 a0) none (fun p0=>(bd (aT c1 p0) (fun p1=>(gd (bn (ae IntKind.i64 a1 s.1.2.1)) (gd (bp (nN (ae IntKind.i64 a1 s.1.2.1)) (len p1)) (bd (aT c1 p0) (fun p2=>(gd (bn (dG IntKind.i64 8 s.1.2.1)) (k (((bits BinOp.or IntKind.u64 s.1.1 (lv IntKind.u64 (cy IntKind.u64 (nth 0 p2 (nN (ae IntKind.i64 a1 s.1.2.1)))) (dG IntKind.i64 8 s.1.2.1))),((ae IntKind.i64 s.1.2.1 1),())),((),((),((),())))))))))))))) (some ((s.1.1,(0,())),())))
def e.aO (L:gY) (J:gZ) (a0:Nat) (a1:Int) (c0:T1) (c1:T2):(Option (lb×Unit)):=(bd (e.cL L J a0 a1 c0 c1) (fun p0=>(br (ax p0.1.1) (some ((0,(1,())),())) (L _ _ (e.fl L J a0 a1 c0 c1) ((0,(0,())),((),((),((),()))))))))
def e.gM (L:gY) (J:gZ) (a0:Int) (a1:Int) (a2:Int):pZ:=(gd (bn a1) (gd (bn a2) (some (((cy IntKind.i64 (bits BinOp.and IntKind.u64 (jy IntKind.u64 a0 a1) (aE IntKind.u64 (lv IntKind.u64 1 a2) 1))),()),()))))
def e.dU (L:gY) (J:gZ) (a0:Int):(Option (((Int×U4)×(Int×Unit))×Unit)):=(bd (e.gM L J a0 0 2) (fun p0=>(bd (e.gM L J a0 2 8) (fun p1=>(bd (e.gM L J a0 10 8) (fun p2=>(bd (e.gM L J a0 18 24) (fun p3=>(bd (e.fE L J (p0.1.1,(p1.1.1,((aE IntKind.i64 p2.1.1 1),p3.1.1)))) (fun p4=>(br (ax p4.1.1) (some (((0,(0,(0,0))),(1,())),())) (br (ax (af (jy IntKind.u64 a0 42) 0)) (some (((0,(0,(0,0))),(1,())),())) (some (((p0.1.1,(p1.1.1,((aE IntKind.i64 p2.1.1 1),p3.1.1))),(0,())),()))))))))))))))
def e.f_ (L:gY) (J:gZ) (a0:(Int×U4)) (a1:Nat) (a2:Int) (c0:T1) (c1:T2):(Option (((Int×U4)×(Int×Unit))×Unit)):=(bd (e.cT L J a0 0 a2) (fun p0=>(br (ax (af p0.1.2.1 0)) (some (((0,(0,(0,0))),(11,())),())) (bd (e.aO L J a1 p0.1.1 c0 c1) (fun p1=>(bd (e.dU L J p1.1.1) (fun p2=>(br (ax (af p2.1.2.1 0)) (some (((0,(0,(0,0))),(11,())),())) (some ((p2.1.1,(0,())),()))))))))))
def e.bX (L:gY) (J:gZ) (a1:Int) (d1:T4) (v0:(List (Int×Int))) (v1:Nat) (v2:U9→(Option ((Int×(Bool×Unit))×mC))) (k:(U9→(Option ((Int×(Bool×Unit))×mC)))) (s:U9):(Option ((Int×(Bool×Unit))×mC)):=(br (aY s.1.1 (zN (len v0))) (bd (aT d1 v1) (fun p0=>(gd (bn s.1.1) (gd (bp (nN s.1.1) (len p0)) (bd (aT d1 v1) (fun p1=>(br (dn a1 (nth (0,0) p1 (nN s.1.1)).2) (v2 ((s.1.1,()),((),((),((),()))))) (k (((ae IntKind.i64 s.1.1 1),()),((),((),((),())))))))))))) (v2 (((-1),()),((),((),((),()))))))
def e.d_ (L:gY) (J:gZ) (v0:U9→(Option ((Int×(Bool×Unit))×mC))) (k:(U9→(Option ((Int×(Bool×Unit))×mC)))) (s:U9):(Option ((Int×(Bool×Unit))×mC)):=(br (aY s.1.1 0) none (v0 (((-1),()),((),((),((),()))))))
def e.bP (L:gY) (J:gZ) (a0:Nat) (a1:Int) (d0:T3) (d1:T4):(Option ((Int×(Bool×Unit))×mC)):=(J _ _ (fun (k0:(Unit×U2)→_)=>(br (aY a1 1) (some ((0,(false,())),(d0,(d1,())))) (br (ax (af (bO a1 8) 0)) (some ((0,(false,())),(d0,(d1,())))) (k0 ((),((),((),((),())))))))) (fun (s1:(Unit×U2))=>(J _ _ (fun (k2:U9→_)=>(opt (nth (0,(0,none)) d0 a0).2.2 (L _ _ (e.d_ L J k2) ((0,()),((),((),((),()))))) (fun p5=>(bd (aT d1 p5) (fun p6=>(L _ _ (e.bX L J a1 d1 p6 p5 k2) ((0,()),((),((),((),())))))))))) (fun (aH:U9)=>(br (aY aH.1.1 0) (some ((0,(false,())),(d0,(d1,())))) (opt (nth (0,(0,none)) d0 a0).2.2 none (fun cu=>(bd (aT d1 cu) (fun cw=>(gd (bn aH.1.1) (gd (bp (nN aH.1.1) (len cw)) (bd (aT d1 cu) (fun kg=>(bd (aT d1 cu) (fun dM=>(bd (aT d1 cu) (fun fb=>(bd (aT d1 cu) (fun gx=>(bd (aT (aS d1 cu (some (aj (0,0) gx (nN aH.1.1) (fun Cq=>((ae IntKind.i64 (nth (0,0) dM (nN aH.1.1)).1 a1),Cq.2))))) cu) (fun fI=>(bd (aT (aS (aS d1 cu (some (aj (0,0) gx (nN aH.1.1) (fun FK=>((ae IntKind.i64 (nth (0,0) dM (nN aH.1.1)).1 a1),FK.2))))) cu (some (aj (0,0) fI (nN aH.1.1) (fun FK=>(FK.1,(aE IntKind.i64 (nth (0,0) fb (nN aH.1.1)).2 a1)))))) cu) (fun kQ=>(br (af (nth (0,0) kQ (nN aH.1.1)).2 0) (opt (nth (0,(0,none)) d0 a0).2.2 (gd (GJ 0 (ae IntKind.i64 aH.1.1 1)) (gd (bn aH.1.1) (gd (bn (ae IntKind.i64 aH.1.1 1)) (gd (bz (nN aH.1.1) (nN (ae IntKind.i64 aH.1.1 1))) (gd (bz (nN (ae IntKind.i64 aH.1.1 1)) 0) (br (af aH.1.1 (ae IntKind.i64 aH.1.1 1)) (some (((nth (0,0) kg (nN aH.1.1)).1,(true,())),((aj (0,(0,none)) d0 a0 (fun lJ=>(lJ.1,(lJ.2.1,none)))),((aS (aS d1 cu (some (aj (0,0) gx (nN aH.1.1) (fun lJ=>((ae IntKind.i64 (nth (0,0) dM (nN aH.1.1)).1 a1),lJ.2))))) cu (some (aj (0,0) fI (nN aH.1.1) (fun lJ=>(lJ.1,(aE IntKind.i64 (nth (0,0) fb (nN aH.1.1)).2 a1)))))),())))) (gd (bn aH.1.1) (gd (bz 0 (nN aH.1.1)) (gd (bz (nN aH.1.1) 0) (gd (bn (ae IntKind.i64 aH.1.1 1)) (gd (bz (nN (ae IntKind.i64 aH.1.1 1)) 0) (gd (bp 0 0) (some (((nth (0,0) kg (nN aH.1.1)).1,(true,())),((aj (0,(0,none)) d0 a0 (fun lJ=>(lJ.1,(lJ.2.1,(some (len (aS (aS d1 cu (some (aj (0,0) gx (nN aH.1.1) (fun uN=>((ae IntKind.i64 (nth (0,0) dM (nN aH.1.1)).1 a1),uN.2))))) cu (some (aj (0,0) fI (nN aH.1.1) (fun uN=>(uN.1,(aE IntKind.i64 (nth (0,0) fb (nN aH.1.1)).2 a1)))))))))))),((cat (aS (aS d1 cu (some (aj (0,0) gx (nN aH.1.1) (fun lJ=>((ae IntKind.i64 (nth (0,0) dM (nN aH.1.1)).1 a1),lJ.2))))) cu (some (aj (0,0) fI (nN aH.1.1) (fun lJ=>(lJ.1,(aE IntKind.i64 (nth (0,0) fb (nN aH.1.1)).2 a1)))))) [(some (cat (tk 0 []) (cat (rep (α:=(Int×Int)) 0 (0,0)) (dr 0 []))))]),())))))))))))))))) (fun dW=>(bd (aT (aS (aS d1 cu (some (aj (0,0) gx (nN aH.1.1) (fun uN=>((ae IntKind.i64 (nth (0,0) dM (nN aH.1.1)).1 a1),uN.2))))) cu (some (aj (0,0) fI (nN aH.1.1) (fun uN=>(uN.1,(aE IntKind.i64 (nth (0,0) fb (nN aH.1.1)).2 a1)))))) dW) (fun l8=>(bd (aT (aS (aS d1 cu (some (aj (0,0) gx (nN aH.1.1) (fun Ke=>((ae IntKind.i64 (nth (0,0) dM (nN aH.1.1)).1 a1),Ke.2))))) cu (some (aj (0,0) fI (nN aH.1.1) (fun Ke=>(Ke.1,(aE IntKind.i64 (nth (0,0) fb (nN aH.1.1)).2 a1)))))) dW) (fun iR=>(gd (bn aH.1.1) (gd (bn (ae IntKind.i64 aH.1.1 1)) (gd (bn (zN (len l8))) (gd (bz (nN aH.1.1) (nN (ae IntKind.i64 aH.1.1 1))) (gd (bz (nN (ae IntKind.i64 aH.1.1 1)) (nN (zN (len l8)))) (gd (bz (nN (zN (len l8))) (len iR)) (br (af aH.1.1 (ae IntKind.i64 aH.1.1 1)) (some (((nth (0,0) kg (nN aH.1.1)).1,(true,())),((aj (0,(0,none)) d0 a0 (fun rU=>(rU.1,(rU.2.1,(some dW))))),((aS (aS d1 cu (some (aj (0,0) gx (nN aH.1.1) (fun rU=>((ae IntKind.i64 (nth (0,0) dM (nN aH.1.1)).1 a1),rU.2))))) cu (some (aj (0,0) fI (nN aH.1.1) (fun rU=>(rU.1,(aE IntKind.i64 (nth (0,0) fb (nN aH.1.1)).2 a1)))))),())))) (bd (aT (aS (aS d1 cu (some (aj (0,0) gx (nN aH.1.1) (fun rU=>((ae IntKind.i64 (nth (0,0) dM (nN aH.1.1)).1 a1),rU.2))))) cu (some (aj (0,0) fI (nN aH.1.1) (fun rU=>(rU.1,(aE IntKind.i64 (nth (0,0) fb (nN aH.1.1)).2 a1)))))) dW) (fun fq=>(bd (aT (aS (aS d1 cu (some (aj (0,0) gx (nN aH.1.1) (fun Kd=>((ae IntKind.i64 (nth (0,0) dM (nN aH.1.1)).1 a1),Kd.2))))) cu (some (aj (0,0) fI (nN aH.1.1) (fun Kd=>(Kd.1,(aE IntKind.i64 (nth (0,0) fb (nN aH.1.1)).2 a1)))))) dW) (fun ju=>(gd (bn aH.1.1) (gd (bz 0 (nN aH.1.1)) (gd (bz (nN aH.1.1) (len ju)) (bd (aT (aS (aS d1 cu (some (aj (0,0) gx (nN aH.1.1) (fun qM=>((ae IntKind.i64 (nth (0,0) dM (nN aH.1.1)).1 a1),qM.2))))) cu (some (aj (0,0) fI (nN aH.1.1) (fun qM=>(qM.1,(aE IntKind.i64 (nth (0,0) fb (nN aH.1.1)).2 a1)))))) dW) (fun fg=>(gd (bn (ae IntKind.i64 aH.1.1 1)) (gd (bz (nN (ae IntKind.i64 aH.1.1 1)) (len fg)) (gd (bz (len fg) (len fg)) (bd (aT (aS (aS d1 cu (some (aj (0,0) gx (nN aH.1.1) (fun kO=>((ae IntKind.i64 (nth (0,0) dM (nN aH.1.1)).1 a1),kO.2))))) cu (some (aj (0,0) fI (nN aH.1.1) (fun kO=>(kO.1,(aE IntKind.i64 (nth (0,0) fb (nN aH.1.1)).2 a1)))))) dW) (fun eK=>(bd (aT (aS (aS d1 cu (some (aj (0,0) gx (nN aH.1.1) (fun gA=>((ae IntKind.i64 (nth (0,0) dM (nN aH.1.1)).1 a1),gA.2))))) cu (some (aj (0,0) fI (nN aH.1.1) (fun gA=>(gA.1,(aE IntKind.i64 (nth (0,0) fb (nN aH.1.1)).2 a1)))))) dW) (fun lU=>(gd (bz (aK (aw (nN aH.1.1) 0) (len (tk (aw (len fg) (nN (ae IntKind.i64 aH.1.1 1))) (dr (nN (ae IntKind.i64 aH.1.1 1)) eK)))) (len lU)) (bd (aT (aS (aS (aS d1 cu (some (aj (0,0) gx (nN aH.1.1) (fun db=>((ae IntKind.i64 (nth (0,0) dM (nN aH.1.1)).1 a1),db.2))))) cu (some (aj (0,0) fI (nN aH.1.1) (fun db=>(db.1,(aE IntKind.i64 (nth (0,0) fb (nN aH.1.1)).2 a1)))))) dW (some (cat (tk (aw (nN aH.1.1) 0) lU) (cat (tk (aw (len fg) (nN (ae IntKind.i64 aH.1.1 1))) (dr (nN (ae IntKind.i64 aH.1.1 1)) eK)) (dr (aK (aw (nN aH.1.1) 0) (len (tk (aw (len fg) (nN (ae IntKind.i64 aH.1.1 1))) (dr (nN (ae IntKind.i64 aH.1.1 1)) eK)))) lU))))) dW) (fun lZ=>(gd (bn (zN (aK (aw (nN aH.1.1) 0) (len (tk (aw (len fg) (nN (ae IntKind.i64 aH.1.1 1))) (dr (nN (ae IntKind.i64 aH.1.1 1)) eK)))))) (gd (bn (zN (len fq))) (gd (bz (nN (zN (aK (aw (nN aH.1.1) 0) (len (tk (aw (len fg) (nN (ae IntKind.i64 aH.1.1 1))) (dr (nN (ae IntKind.i64 aH.1.1 1)) eK)))))) (nN (zN (len fq)))) (gd (bz (aK 0 (nN (zN (len fq)))) (len lZ)) (bd (aT (aS (aS (aS d1 cu (some (aj (0,0) gx (nN aH.1.1) (fun cm=>((ae IntKind.i64 (nth (0,0) dM (nN aH.1.1)).1 a1),cm.2))))) cu (some (aj (0,0) fI (nN aH.1.1) (fun cm=>(cm.1,(aE IntKind.i64 (nth (0,0) fb (nN aH.1.1)).2 a1)))))) dW (some (cat (tk (aw (nN aH.1.1) 0) lU) (cat (tk (aw (len fg) (nN (ae IntKind.i64 aH.1.1 1))) (dr (nN (ae IntKind.i64 aH.1.1 1)) eK)) (dr (aK (aw (nN aH.1.1) 0) (len (tk (aw (len fg) (nN (ae IntKind.i64 aH.1.1 1))) (dr (nN (ae IntKind.i64 aH.1.1 1)) eK)))) lU))))) dW) (fun jm=>(gd (bp 0 (aw (nN (zN (len fq))) (nN (zN (aK (aw (nN aH.1.1) 0) (len (tk (aw (len fg) (nN (ae IntKind.i64 aH.1.1 1))) (dr (nN (ae IntKind.i64 aH.1.1 1)) eK)))))))) (bd (aT (aS (aS (aS (aS d1 cu (some (aj (0,0) gx (nN aH.1.1) (fun bN=>((ae IntKind.i64 (nth (0,0) dM (nN aH.1.1)).1 a1),bN.2))))) cu (some (aj (0,0) fI (nN aH.1.1) (fun bN=>(bN.1,(aE IntKind.i64 (nth (0,0) fb (nN aH.1.1)).2 a1)))))) dW (some (cat (tk (aw (nN aH.1.1) 0) lU) (cat (tk (aw (len fg) (nN (ae IntKind.i64 aH.1.1 1))) (dr (nN (ae IntKind.i64 aH.1.1 1)) eK)) (dr (aK (aw (nN aH.1.1) 0) (len (tk (aw (len fg) (nN (ae IntKind.i64 aH.1.1 1))) (dr (nN (ae IntKind.i64 aH.1.1 1)) eK)))) lU))))) dW (some (cat (tk (aK 0 (nN (zN (aK (aw (nN aH.1.1) 0) (len (tk (aw (len fg) (nN (ae IntKind.i64 aH.1.1 1))) (dr (nN (ae IntKind.i64 aH.1.1 1)) eK))))))) jm) (cat (rep (α:=(Int×Int)) (aw (nN (zN (len fq))) (nN (zN (aK (aw (nN aH.1.1) 0) (len (tk (aw (len fg) (nN (ae IntKind.i64 aH.1.1 1))) (dr (nN (ae IntKind.i64 aH.1.1 1)) eK))))))) (0,0)) (dr (aK (aK 0 (nN (zN (aK (aw (nN aH.1.1) 0) (len (tk (aw (len fg) (nN (ae IntKind.i64 aH.1.1 1))) (dr (nN (ae IntKind.i64 aH.1.1 1)) eK))))))) (aw (nN (zN (len fq))) (nN (zN (aK (aw (nN aH.1.1) 0) (len (tk (aw (len fg) (nN (ae IntKind.i64 aH.1.1 1))) (dr (nN (ae IntKind.i64 aH.1.1 1)) eK)))))))) jm))))) dW) (fun Ku=>(some (((nth (0,0) kg (nN aH.1.1)).1,(true,())),((aj (0,(0,none)) d0 a0 (fun bw=>(bw.1,(bw.2.1,(some (len (aS (aS (aS (aS d1 cu (some (aj (0,0) gx (nN aH.1.1) (fun cH=>((ae IntKind.i64 (nth (0,0) dM (nN aH.1.1)).1 a1),cH.2))))) cu (some (aj (0,0) fI (nN aH.1.1) (fun cH=>(cH.1,(aE IntKind.i64 (nth (0,0) fb (nN aH.1.1)).2 a1)))))) dW (some (cat (tk (aw (nN aH.1.1) 0) lU) (cat (tk (aw (len fg) (nN (ae IntKind.i64 aH.1.1 1))) (dr (nN (ae IntKind.i64 aH.1.1 1)) eK)) (dr (aK (aw (nN aH.1.1) 0) (len (tk (aw (len fg) (nN (ae IntKind.i64 aH.1.1 1))) (dr (nN (ae IntKind.i64 aH.1.1 1)) eK)))) lU))))) dW (some (cat (tk (aK 0 (nN (zN (aK (aw (nN aH.1.1) 0) (len (tk (aw (len fg) (nN (ae IntKind.i64 aH.1.1 1))) (dr (nN (ae IntKind.i64 aH.1.1 1)) eK))))))) jm) (cat (rep (α:=(Int×Int)) (aw (nN (zN (len fq))) (nN (zN (aK (aw (nN aH.1.1) 0) (len (tk (aw (len fg) (nN (ae IntKind.i64 aH.1.1 1))) (dr (nN (ae IntKind.i64 aH.1.1 1)) eK))))))) (0,0)) (dr (aK (aK 0 (nN (zN (aK (aw (nN aH.1.1) 0) (len (tk (aw (len fg) (nN (ae IntKind.i64 aH.1.1 1))) (dr (nN (ae IntKind.i64 aH.1.1 1)) eK))))))) (aw (nN (zN (len fq))) (nN (zN (aK (aw (nN aH.1.1) 0) (len (tk (aw (len fg) (nN (ae IntKind.i64 aH.1.1 1))) (dr (nN (ae IntKind.i64 aH.1.1 1)) eK)))))))) jm))))))))))),((cat (aS (aS (aS (aS (aS d1 cu (some (aj (0,0) gx (nN aH.1.1) (fun bw=>((ae IntKind.i64 (nth (0,0) dM (nN aH.1.1)).1 a1),bw.2))))) cu (some (aj (0,0) fI (nN aH.1.1) (fun bw=>(bw.1,(aE IntKind.i64 (nth (0,0) fb (nN aH.1.1)).2 a1)))))) dW (some (cat (tk (aw (nN aH.1.1) 0) lU) (cat (tk (aw (len fg) (nN (ae IntKind.i64 aH.1.1 1))) (dr (nN (ae IntKind.i64 aH.1.1 1)) eK)) (dr (aK (aw (nN aH.1.1) 0) (len (tk (aw (len fg) (nN (ae IntKind.i64 aH.1.1 1))) (dr (nN (ae IntKind.i64 aH.1.1 1)) eK)))) lU))))) dW (some (cat (tk (aK 0 (nN (zN (aK (aw (nN aH.1.1) 0) (len (tk (aw (len fg) (nN (ae IntKind.i64 aH.1.1 1))) (dr (nN (ae IntKind.i64 aH.1.1 1)) eK))))))) jm) (cat (rep (α:=(Int×Int)) (aw (nN (zN (len fq))) (nN (zN (aK (aw (nN aH.1.1) 0) (len (tk (aw (len fg) (nN (ae IntKind.i64 aH.1.1 1))) (dr (nN (ae IntKind.i64 aH.1.1 1)) eK))))))) (0,0)) (dr (aK (aK 0 (nN (zN (aK (aw (nN aH.1.1) 0) (len (tk (aw (len fg) (nN (ae IntKind.i64 aH.1.1 1))) (dr (nN (ae IntKind.i64 aH.1.1 1)) eK))))))) (aw (nN (zN (len fq))) (nN (zN (aK (aw (nN aH.1.1) 0) (len (tk (aw (len fg) (nN (ae IntKind.i64 aH.1.1 1))) (dr (nN (ae IntKind.i64 aH.1.1 1)) eK)))))))) jm))))) dW none) [(some (tk (aK (aw (nN aH.1.1) 0) (len (tk (aw (len fg) (nN (ae IntKind.i64 aH.1.1 1))) (dr (nN (ae IntKind.i64 aH.1.1 1)) eK)))) Ku))]),()))))))))))))))))))))))))))))))))))))))))))))) (some (((nth (0,0) kg (nN aH.1.1)).1,(true,())),(d0,((aS (aS d1 cu (some (aj (0,0) gx (nN aH.1.1) (fun lJ=>((ae IntKind.i64 (nth (0,0) dM (nN aH.1.1)).1 a1),lJ.2))))) cu (some (aj (0,0) fI (nN aH.1.1) (fun lJ=>(lJ.1,(aE IntKind.i64 (nth (0,0) fb (nN aH.1.1)).2 a1)))))),()))))))))))))))))))))))))))))
def e.iN (L:gY) (J:gZ) (a0:(Int×U4)) (a1:Nat) (a2:Nat) (a3:U1) (c0:T1) (k:(((Int×Unit)×(Unit×(Unit×((U5×Unit)×(T2×mC)))))→(Option ((U1×(Int×Unit))×(T2×mC))))) (s:((Int×Unit)×(Unit×(Unit×((U5×Unit)×(T2×mC)))))):(Option ((U1×(Int×Unit))×(T2×mC))):=(br (aY s.1.1 a0.1) (bd (e.f_ L J a0 a1 s.1.1 c0 s.2.2.2.2.1) (fun p0=>(br (ax (af p0.1.1.1 0)) (k (((ae IntKind.i64 s.1.1 1),()),((),((),(((s.2.2.2.1.1.1,(s.2.2.2.1.1.2.1,(s.2.2.2.1.1.2.2.1,(s.2.2.2.1.1.2.2.2.1,(s.2.2.2.1.1.2.2.2.2.1,(s.2.2.2.1.1.2.2.2.2.2.1,(s.2.2.2.1.1.2.2.2.2.2.2.1,(s.2.2.2.1.1.2.2.2.2.2.2.2.1,(s.2.2.2.1.1.2.2.2.2.2.2.2.2.1,(s.2.2.2.1.1.2.2.2.2.2.2.2.2.2.1,(s.2.2.2.1.1.2.2.2.2.2.2.2.2.2.2.1,(s.2.2.2.1.1.2.2.2.2.2.2.2.2.2.2.2.1,(s.2.2.2.1.1.2.2.2.2.2.2.2.2.2.2.2.2.1,(s.2.2.2.1.1.2.2.2.2.2.2.2.2.2.2.2.2.2.1,(s.2.2.2.1.1.2.2.2.2.2.2.2.2.2.2.2.2.2.2.1,(s.2.2.2.1.1.2.2.2.2.2.2.2.2.2.2.2.2.2.2.2.1,(s.2.2.2.1.1.2.2.2.2.2.2.2.2.2.2.2.2.2.2.2.2.1,(s.2.2.2.1.1.2.2.2.2.2.2.2.2.2.2.2.2.2.2.2.2.2.1,(s.2.2.2.1.1.2.2.2.2.2.2.2.2.2.2.2.2.2.2.2.2.2.2.1,(s.2.2.2.1.1.2.2.2.2.2.2.2.2.2.2.2.2.2.2.2.2.2.2.2.1,(s.2.2.2.1.1.2.2.2.2.2.2.2.2.2.2.2.2.2.2.2.2.2.2.2.2.1,(s.2.2.2.1.1.2.2.2.2.2.2.2.2.2.2.2.2.2.2.2.2.2.2.2.2.2.1,(s.2.2.2.1.1.2.2.2.2.2.2.2.2.2.2.2.2.2.2.2.2.2.2.2.2.2.2.1,(s.2.2.2.1.1.2.2.2.2.2.2.2.2.2.2.2.2.2.2.2.2.2.2.2.2.2.2.2.1,(s.2.2.2.1.1.2.2.2.2.2.2.2.2.2.2.2.2.2.2.2.2.2.2.2.2.2.2.2.2.1,(s.2.2.2.1.1.2.2.2.2.2.2.2.2.2.2.2.2.2.2.2.2.2.2.2.2.2.2.2.2.2.1,())))))))))))))))))))))))))),()),(s.2.2.2.2.1,(s.2.2.2.2.2.1,(s.2.2.2.2.2.2.1,())))))))) (bd (e.nz L J a3.1.2.2.2.2.1) (fun p1=>(bd (e.bP L J a2 p1.1.1 s.2.2.2.2.2.1 s.2.2.2.2.2.2.1) (fun p2=>(br (ax p2.1.2.1) (bd (e.bb L J a3 14 0) (fun p3=>(some ((p3.1.1,(0,())),(s.2.2.2.2.1,(p2.2.1,(p2.2.2.1,()))))))) (bd (e.bG L J ((some a1),(a0,s.1.1)) (1,p0.1.1.2) c0 s.2.2.2.2.1) (fun p4=>(bd (e.aD L J ((some a1),(a0,s.1.1)) 1 (cy IntKind.u64 p2.1.1) c0 p4.2.1) (fun p5=>(bd (e.aD L J ((some a1),(a0,s.1.1)) 2 (cy IntKind.u64 p1.1.1) c0 p5.2.1) (fun p6=>(bd (e.aD L J ((some a1),(a0,s.1.1)) 3 0 c0 p6.2.1) (fun p7=>(bd (e.aD L J ((some a1),(a0,s.1.1)) 4 0 c0 p7.2.1) (fun p8=>(bd (e.bb L J a3 0 s.1.1) (fun p9=>(some ((p9.1.1,(0,())),(p8.2.1,(p2.2.1,(p2.2.2.1,()))))))))))))))))))))))))) (bd (e.bb L J a3 13 0) (fun gB=>(some ((gB.1.1,(0,())),(s.2.2.2.2.1,(s.2.2.2.2.2.1,(s.2.2.2.2.2.2.1,()))))))))
def e.iG (L:gY) (J:gZ) (a0:(Int×U4)) (a1:Nat) (a2:Nat) (a3:U1) (c0:T1) (d0:T2) (d1:T3) (d2:T4):(Option ((U1×(Int×Unit))×(T2×mC))):=(J _ _ (fun (k0:U0→_)=>(br a3.2.2.2.2.2.2.2.2.2.2.2.2.2.2.2.1 (some ((((0,(0,(0,(0,(0,(0,0)))))),(0,(0,(0,(0,([],(0,(0,(0,(0,([],(0,([],(0,(false,(false,(false,(0,(0,[]))))))))))))))))))),(1,())),(d0,(d1,(d2,()))))) (br (ax (af a3.2.1 1)) (some ((((0,(0,(0,(0,(0,(0,0)))))),(0,(0,(0,(0,([],(0,(0,(0,(0,([],(0,([],(0,(false,(false,(false,(0,(0,[]))))))))))))))))))),(1,())),(d0,(d1,(d2,()))))) (k0 ((),((),((),(((0,(0,(0,(0,(0,(0,(0,(0,(0,(0,(0,([],(0,(0,(0,(0,([],(0,([],(0,(false,(false,(false,(0,(0,([],())))))))))))))))))))))))))),()),())))))))) (fun (s1:U0)=>(br (af a3.1.1 3) (bd (g.g5 ((some a1),(a0,a3.1.2.2.2.2.1)) a2 c0 d0 d1 d2) (fun p2=>(bd (e.bb L J a3 p2.1.1 0) (fun p3=>(some ((p3.1.1,(0,())),(p2.2.1,(p2.2.2.1,(p2.2.2.2.1,()))))))))) (L _ _ (e.iN L J a0 a1 a2 a3 c0) ((0,()),((),((),(((s1.2.2.2.1.1.1,(s1.2.2.2.1.1.2.1,(s1.2.2.2.1.1.2.2.1,(s1.2.2.2.1.1.2.2.2.1,(s1.2.2.2.1.1.2.2.2.2.1,(s1.2.2.2.1.1.2.2.2.2.2.1,(s1.2.2.2.1.1.2.2.2.2.2.2.1,(s1.2.2.2.1.1.2.2.2.2.2.2.2.1,(s1.2.2.2.1.1.2.2.2.2.2.2.2.2.1,(s1.2.2.2.1.1.2.2.2.2.2.2.2.2.2.1,(s1.2.2.2.1.1.2.2.2.2.2.2.2.2.2.2.1,(s1.2.2.2.1.1.2.2.2.2.2.2.2.2.2.2.2.1,(s1.2.2.2.1.1.2.2.2.2.2.2.2.2.2.2.2.2.1,(s1.2.2.2.1.1.2.2.2.2.2.2.2.2.2.2.2.2.2.1,(s1.2.2.2.1.1.2.2.2.2.2.2.2.2.2.2.2.2.2.2.1,(s1.2.2.2.1.1.2.2.2.2.2.2.2.2.2.2.2.2.2.2.2.1,(s1.2.2.2.1.1.2.2.2.2.2.2.2.2.2.2.2.2.2.2.2.2.1,(s1.2.2.2.1.1.2.2.2.2.2.2.2.2.2.2.2.2.2.2.2.2.2.1,(s1.2.2.2.1.1.2.2.2.2.2.2.2.2.2.2.2.2.2.2.2.2.2.2.1,(s1.2.2.2.1.1.2.2.2.2.2.2.2.2.2.2.2.2.2.2.2.2.2.2.2.1,(s1.2.2.2.1.1.2.2.2.2.2.2.2.2.2.2.2.2.2.2.2.2.2.2.2.2.1,(s1.2.2.2.1.1.2.2.2.2.2.2.2.2.2.2.2.2.2.2.2.2.2.2.2.2.2.1,(s1.2.2.2.1.1.2.2.2.2.2.2.2.2.2.2.2.2.2.2.2.2.2.2.2.2.2.2.1,(s1.2.2.2.1.1.2.2.2.2.2.2.2.2.2.2.2.2.2.2.2.2.2.2.2.2.2.2.2.1,(s1.2.2.2.1.1.2.2.2.2.2.2.2.2.2.2.2.2.2.2.2.2.2.2.2.2.2.2.2.2.1,(s1.2.2.2.1.1.2.2.2.2.2.2.2.2.2.2.2.2.2.2.2.2.2.2.2.2.2.2.2.2.2.1,())))))))))))))))))))))))))),()),(d0,(d1,(d2,())))))))))))
def e.jJ (L:gY) (J:gZ) (a0:(Int×U4)) (a1:Int):(Option (((Int×U4)×(Int×Unit))×Unit)):=(J _ _ (fun (k0:(Unit×(Unit×(Unit×(((Int×(Int×lb))×((Int×(Int×lb))×Unit))×Unit))))→_)=>(J _ _ (fun (k1:iu→_)=>(bd (e.fE L J a0) (fun p2=>(br (ax p2.1.1) (k1 ((true,()),((),((),((),()))))) (bd (e.ab L J a1 0 7) (fun p3=>(k1 (((ax p3.1.1),()),((),((),((),()))))))))))) (fun (s4:iu)=>(br s4.1.1 (some (((0,(0,(0,0))),(1,())),())) (br (af a0.1 0) (some (((0,(0,(0,0))),(11,())),())) (br (af a0.1 3) (some (((0,(0,(0,0))),(10,())),())) (br (af a0.1 1) (k0 ((),((),((),(((2,(a0.2.1,(a1,(a0.2.2.2,())))),((0,(0,(0,(0,())))),())),()))))) (br (ax (af a0.2.2.1 a1)) (some (((0,(0,(0,0))),(15,())),())) (br (af a0.2.1 7) (some (((0,(0,(0,0))),(16,())),())) (k0 ((),((),((),(((a0.1,(a0.2.1,(a0.2.2.1,(a0.2.2.2,())))),((0,(0,(0,(0,())))),())),())))))))))))))) (fun (s5:(Unit×(Unit×(Unit×(((Int×(Int×lb))×((Int×(Int×lb))×Unit))×Unit)))))=>(some (((s5.2.2.2.1.1.1,((ae IntKind.i64 s5.2.2.2.1.1.2.1 1),(s5.2.2.2.1.1.2.2.1,s5.2.2.2.1.1.2.2.2.1))),(0,())),()))))
def e.dV (L:gY) (J:gZ) (a0:Nat) (a1:Int) (a2:Int) (a3:Int) (c0:T1) (d0:T2):(Option ((Bool×(Int×Unit))×(T2×Unit))):=(bd (e.aO L J a0 a1 c0 d0) (fun p0=>(br (ax (af p0.1.2.1 0)) (some ((false,(p0.1.2.1,())),(d0,()))) (br (ax (af p0.1.1 a2)) (some ((false,(p0.1.2.1,())),(d0,()))) (bd (e.aZ L J a0 a1 a3 c0 d0) (fun p1=>(some ((true,(p1.1.1,())),(p1.2.1,())))))))))
def e.iK (L:gY) (J:gZ) (a0:(Int×U4)) (a1:Nat) (a2:U1) (c0:T1) (d0:T2):(Option ((U1×(Int×Unit))×(T2×Unit))):=(bd (e.cT L J a0 0 a2.1.2.2.2.2.1) (fun p0=>(br (af a2.2.1 13) (J _ _ (fun (k1:U0→_)=>(br a2.2.2.2.2.2.2.2.2.2.2.2.2.2.2.2.1 (some ((((0,(0,(0,(0,(0,(0,0)))))),(0,(0,(0,(0,([],(0,(0,(0,(0,([],(0,([],(0,(false,(false,(false,(0,(0,[]))))))))))))))))))),(1,())),(d0,()))) (k1 ((),((),((),(((0,(0,(0,(0,(0,(0,(0,(0,(0,(0,(0,([],(0,(0,(0,(0,([],(0,([],(0,(false,(false,(false,(0,(0,([],())))))))))))))))))))))))))),()),()))))))) (fun (s2:U0)=>(bd (e.aO L J a1 p0.1.1 c0 d0) (fun p3=>(bd (e.dU L J p3.1.1) (fun p4=>(bd (e.jJ L J p4.1.1 a2.2.2.1) (fun p5=>(br (af p5.1.2.1 10) (some ((a2,(0,())),(d0,()))) (br (af p5.1.2.1 0) (bd (e.gN L J p5.1.1) (fun p6=>(some (((a2.1,(14,(a2.2.2.1,(a2.2.2.2.1,(a2.2.2.2.2.1,(a2.2.2.2.2.2.1,(p3.1.1,(p6.1.1,a2.2.2.2.2.2.2.2.2)))))))),(0,())),(d0,()))))) (bd (e.bb L J a2 p5.1.2.1 0) (fun p7=>(some ((p7.1.1,(0,())),(d0,()))))))))))))))) (br (af a2.2.1 14) (J _ _ (fun (k8:U0→_)=>(br a2.2.2.2.2.2.2.2.2.2.2.2.2.2.2.2.1 (some ((((0,(0,(0,(0,(0,(0,0)))))),(0,(0,(0,(0,([],(0,(0,(0,(0,([],(0,([],(0,(false,(false,(false,(0,(0,[]))))))))))))))))))),(1,())),(d0,()))) (k8 ((),((),((),(((0,(0,(0,(0,(0,(0,(0,(0,(0,(0,(0,([],(0,(0,(0,(0,([],(0,([],(0,(false,(false,(false,(0,(0,([],())))))))))))))))))))))))))),()),()))))))) (fun (s9:U0)=>(bd (e.dV L J a1 p0.1.1 a2.2.2.2.2.2.2.1 a2.2.2.2.2.2.2.2.1 c0 d0) (fun gB=>(br gB.1.1 (bd (e.bb L J a2 0 0) (fun lL=>(some ((lL.1.1,(0,())),(gB.2.1,()))))) (some (((a2.1,(13,(a2.2.2.1,(a2.2.2.2.1,(a2.2.2.2.2.1,(a2.2.2.2.2.2.1,(0,(0,a2.2.2.2.2.2.2.2.2)))))))),(0,())),(gB.2.1,())))))))) (J _ _ (fun (Jn:U0→_)=>(br a2.2.2.2.2.2.2.2.2.2.2.2.2.2.2.2.1 (some ((((0,(0,(0,(0,(0,(0,0)))))),(0,(0,(0,(0,([],(0,(0,(0,(0,([],(0,([],(0,(false,(false,(false,(0,(0,[]))))))))))))))))))),(1,())),(d0,()))) (some ((((0,(0,(0,(0,(0,(0,0)))))),(0,(0,(0,(0,([],(0,(0,(0,(0,([],(0,([],(0,(false,(false,(false,(0,(0,[]))))))))))))))))))),(1,())),(d0,()))))) (fun (yi:U0)=>none))))))
def e.da (L:gY) (J:gZ) (a0:Nat) (a1:U1) (c0:T0) (c1:T5) (c2:T6) (c3:T7) (c4:T2) (d0:T1) (d1:T2) (d2:T3) (d3:T4) (d4:T9):(Option ((U1×Unit)×(T1×(T2×(T3×(T4×(T9×Unit))))))):=(br (af a1.2.1 0) (bd (e.bb L J a1 a1.2.2.2.2.2.2.2.2.2.2.2.2.2.2.2.2.2.1 0) (fun p0=>(some ((p0.1.1,()),(d0,(d1,(d2,(d3,(d4,()))))))))) (br (af a1.2.1 1) (opt (nth bB c0 a0).2.2.1 (opt (nth bB c0 a0).2.2.2.1 none (fun p1=>none)) (fun p2=>(opt (nth bB c0 a0).2.2.2.1 none (fun p3=>(bd (e.iG L J (nth bB c0 a0).1 p2 p3 a1 d0 d1 d2 d3) (fun p4=>(some ((p4.1.1,()),(d0,(p4.2.1,(p4.2.2.1,(p4.2.2.2.1,(d4,()))))))))))))) (br (af a1.1.1 7) (opt (nth bB c0 a0).2.2.1 none (fun p5=>(bd (g.kH (nth bB c0 a0).1 p5 a1 d0 d1) (fun p6=>(some ((p6.1.1,()),(d0,(p6.2.1,(d2,(d3,(d4,()))))))))))) (br (af a1.1.1 4) (opt (nth bB c0 a0).2.2.1 none (fun p7=>(bd (e.iK L J (nth bB c0 a0).1 p7 a1 d0 d1) (fun p8=>(some ((p8.1.1,()),(d0,(p8.2.1,(d2,(d3,(d4,()))))))))))) (br (af a1.1.1 5) (opt (nth bB c0 a0).2.1 (opt (nth bB c0 a0).2.2.1 none (fun p9=>(bd (g.g9 (nth bB c0 a0).1 none p9 a1 d0 d1 d4) (fun gB=>(some ((gB.1.1,()),(gB.2.1,(gB.2.2.1,(d2,(d3,(gB.2.2.2.1,()))))))))))) (fun lL=>(opt (nth bB c0 a0).2.2.1 none (fun cu=>(bd (g.g9 (nth bB c0 a0).1 (some lL) cu a1 d0 d1 d4) (fun cw=>(some ((cw.1.1,()),(cw.2.1,(cw.2.2.1,(d2,(d3,(cw.2.2.2.1,()))))))))))))) (opt (nth bB c0 a0).2.2.1 none (fun kg=>(bd (g.jO (nth bB c0 a0).1 kg a1 d0 d1) (fun dM=>(some ((dM.1.1,()),(d0,(dM.2.1,(d2,(d3,(d4,()))))))))))))))))
def e.cE (L:gY) (J:gZ) (a0:Nat) (d0:T6) (d1:T2):(Option (Unit×(T6×(T2×Unit)))):=(br (ax (af (nth aF (aj aF d0 a0 (fun r3=>(r3.1,(r3.2.1,(r3.2.2.1,(r3.2.2.2.1,(false,r3.2.2.2.2.2))))))) a0).2.2.2.1.2.2.2.2.2.2.2.2.2.2.2.2.2.2.2.2.2.1 0)) (some ((),((aj aF d0 a0 (fun r3=>(r3.1,(r3.2.1,(r3.2.2.1,(r3.2.2.2.1,(false,r3.2.2.2.2.2))))))),(d1,())))) (br (af (nth aF (aj aF d0 a0 (fun r3=>(r3.1,(r3.2.1,(r3.2.2.1,(r3.2.2.2.1,(false,r3.2.2.2.2.2))))))) a0).2.2.2.1.1.1 1) (opt (nth aF (aj aF d0 a0 (fun r3=>(r3.1,(r3.2.1,(r3.2.2.1,(r3.2.2.2.1,(false,r3.2.2.2.2.2))))))) a0).2.1 none (fun p0=>(bd (aT d1 p0) (fun p1=>(gd (bn (nth aF (aj aF d0 a0 (fun r5=>(r5.1,(r5.2.1,(r5.2.2.1,(r5.2.2.2.1,(false,r5.2.2.2.2.2))))))) a0).2.2.2.1.1.2.1) (gd (bp (nN (nth aF (aj aF d0 a0 (fun r5=>(r5.1,(r5.2.1,(r5.2.2.1,(r5.2.2.2.1,(false,r5.2.2.2.2.2))))))) a0).2.2.2.1.1.2.1) (len p1)) (bd (aT d1 p0) (fun p2=>(some ((),((aj aF d0 a0 (fun r6=>(r6.1,(r6.2.1,(r6.2.2.1,(r6.2.2.2.1,(false,r6.2.2.2.2.2))))))),((aS d1 p0 (some (aS p2 (nN (nth aF (aj aF d0 a0 (fun r6=>(r6.1,(r6.2.1,(r6.2.2.1,(r6.2.2.2.1,(false,r6.2.2.2.2.2))))))) a0).2.2.2.1.1.2.1) (cy IntKind.u64 (nth aF (aj aF d0 a0 (fun r6=>(r6.1,(r6.2.1,(r6.2.2.1,(r6.2.2.2.1,(false,r6.2.2.2.2.2))))))) a0).2.2.2.1.1.2.2.2.2.1)))),())))))))))))) (J _ _ (fun (k3:iu→_)=>(br (af (nth aF (aj aF d0 a0 (fun r4=>(r4.1,(r4.2.1,(r4.2.2.1,(r4.2.2.2.1,(false,r4.2.2.2.2.2))))))) a0).2.2.2.1.1.1 7) (k3 ((true,()),((),((),((),()))))) (br (af (nth aF (aj aF d0 a0 (fun r4=>(r4.1,(r4.2.1,(r4.2.2.1,(r4.2.2.2.1,(false,r4.2.2.2.2.2))))))) a0).2.2.2.1.1.1 8) (k3 ((true,()),((),((),((),()))))) (k3 (((af (nth aF (aj aF d0 a0 (fun r4=>(r4.1,(r4.2.1,(r4.2.2.1,(r4.2.2.2.1,(false,r4.2.2.2.2.2))))))) a0).2.2.2.1.1.1 10),()),((),((),((),())))))))) (fun (s4:iu)=>(br s4.1.1 (opt (nth aF (aj aF d0 a0 (fun r4=>(r4.1,(r4.2.1,(r4.2.2.1,(r4.2.2.2.1,(false,r4.2.2.2.2.2))))))) a0).2.1 none (fun p5=>(bd (aT d1 p5) (fun p6=>(gd (bn (nth aF (aj aF d0 a0 (fun r6=>(r6.1,(r6.2.1,(r6.2.2.1,(r6.2.2.2.1,(false,r6.2.2.2.2.2))))))) a0).2.2.2.1.1.2.1) (gd (bp (nN (nth aF (aj aF d0 a0 (fun r6=>(r6.1,(r6.2.1,(r6.2.2.1,(r6.2.2.2.1,(false,r6.2.2.2.2.2))))))) a0).2.2.2.1.1.2.1) (len p6)) (bd (aT d1 p5) (fun p7=>(some ((),((aj aF d0 a0 (fun r7=>(r7.1,(r7.2.1,(r7.2.2.1,(r7.2.2.2.1,(false,r7.2.2.2.2.2))))))),((aS d1 p5 (some (aS p7 (nN (nth aF (aj aF d0 a0 (fun r7=>(r7.1,(r7.2.1,(r7.2.2.1,(r7.2.2.2.1,(false,r7.2.2.2.2.2))))))) a0).2.2.2.1.1.2.1) (cy IntKind.u64 (nth aF (aj aF d0 a0 (fun r7=>(r7.1,(r7.2.1,(r7.2.2.1,(r7.2.2.2.1,(false,r7.2.2.2.2.2))))))) a0).2.2.2.1.2.2.2.2.2.2.2.2.2.2.2.2.2.2.2.2.2.2.1)))),())))))))))))) (br (af (nth aF (aj aF d0 a0 (fun r4=>(r4.1,(r4.2.1,(r4.2.2.1,(r4.2.2.2.1,(false,r4.2.2.2.2.2))))))) a0).2.2.2.1.1.1 4) (bd (e.bT L J (nth aF (aj aF d0 a0 (fun r4=>(r4.1,(r4.2.1,(r4.2.2.1,(r4.2.2.2.1,(false,r4.2.2.2.2.2))))))) a0).2.2.1 ((nth aF (aj aF d0 a0 (fun r4=>(r4.1,(r4.2.1,(r4.2.2.1,(r4.2.2.2.1,(false,r4.2.2.2.2.2))))))) a0).2.2.2.1.1.2.2.2.2.1,true)) (fun p8=>(some ((),((aj aF (aj aF d0 a0 (fun r6=>(r6.1,(r6.2.1,(r6.2.2.1,(r6.2.2.2.1,(false,r6.2.2.2.2.2))))))) a0 (fun r5=>(r5.1,(r5.2.1,(p8.1.1,r5.2.2.2))))),(d1,())))))) (br (af (nth aF (aj aF d0 a0 (fun r4=>(r4.1,(r4.2.1,(r4.2.2.1,(r4.2.2.2.1,(false,r4.2.2.2.2.2))))))) a0).2.2.2.1.1.1 6) (bd (e.bT L J (nth aF (aj aF d0 a0 (fun r4=>(r4.1,(r4.2.1,(r4.2.2.1,(r4.2.2.2.1,(false,r4.2.2.2.2.2))))))) a0).2.2.1 ((nth aF (aj aF d0 a0 (fun r4=>(r4.1,(r4.2.1,(r4.2.2.1,(r4.2.2.2.1,(false,r4.2.2.2.2.2))))))) a0).2.2.2.1.1.2.2.2.2.1,false)) (fun p9=>(some ((),((aj aF (aj aF d0 a0 (fun r6=>(r6.1,(r6.2.1,(r6.2.2.1,(r6.2.2.2.1,(false,r6.2.2.2.2.2))))))) a0 (fun r5=>(r5.1,(r5.2.1,(p9.1.1,r5.2.2.2))))),(d1,())))))) (br (af (nth aF (aj aF d0 a0 (fun r4=>(r4.1,(r4.2.1,(r4.2.2.1,(r4.2.2.2.1,(false,r4.2.2.2.2.2))))))) a0).2.2.2.1.1.1 5) (bd (e.hO L J (nth aF (aj aF d0 a0 (fun r4=>(r4.1,(r4.2.1,(r4.2.2.1,(r4.2.2.2.1,(false,r4.2.2.2.2.2))))))) a0).2.2.1) (fun gB=>(some ((),((aj aF (aj aF d0 a0 (fun r6=>(r6.1,(r6.2.1,(r6.2.2.1,(r6.2.2.2.1,(false,r6.2.2.2.2.2))))))) a0 (fun r5=>(r5.1,(r5.2.1,(gB.1.1,r5.2.2.2))))),(d1,())))))) (some ((),((aj aF d0 a0 (fun r4=>(r4.1,(r4.2.1,(r4.2.2.1,(r4.2.2.2.1,(false,r4.2.2.2.2.2))))))),(d1,()))))))))))))
def e.bQ (L:gY) (J:gZ) (a0:Nat) (a1:Int) (c0:T5) (d0:T0) (d1:T1) (d2:T2) (d3:T3) (d4:T4) (d5:T6) (d6:T7) (d7:T2) (d8:T9):(Option ((Bool×(Int×Unit))×(T0×(T1×(T2×(T3×(T4×(T6×(T7×(T2×(T9×Unit))))))))))):=(opt (nth bB d0 a0).2.2.2.2.1 (bd (e.ab L J a1 0 (-1)) (fun p0=>(br (ax p0.1.1) (some ((false,(2,())),(d0,(d1,(d2,(d3,(d4,(d5,(d6,(d7,(d8,()))))))))))) (opt (nth bB d0 a0).2.2.2.2.1 none (fun p1=>(bd (aT c0 p1) (fun p2=>(gd (bn a1) (gd (bp (nN a1) (len p2)) (bd (aT c0 p1) (fun p3=>(opt (nth none p3 (nN a1)) none (fun p4=>(bd (e.bx L J p4 d5 d7) (fun p5=>(br p5.1.1 (some ((false,(23,())),(d0,(d1,(d2,(d3,(d4,(d5,(d6,(d7,(d8,()))))))))))) (J _ _ (fun (k6:(Unit×(Unit×(Unit×(Unit×(T0×(T6×(T7×Unit)))))))→_)=>(br (ax (nth aF d5 p4).2.2.2.2.1) (gd (bp 0 (len (nth aF d5 p4).1)) (gd (bz 1 (len (nth aF d5 p4).1)) (gd (bz (len (nth aF d5 p4).1) (len (nth aF d5 p4).1)) (opt (nth aF (aj aF d5 p4 (fun qM=>((tk (aw (len qM.1) 1) (dr 1 qM.1)),qM.2))) p4).2.1 (bd (e.fW L J (nth bB d0 a0).1 none (nth aF (aj aF d5 p4 (fun qM=>((tk (aw (len qM.1) 1) (dr 1 qM.1)),qM.2))) p4).2.2.1 (nth (0,(0,(0,(0,(0,(0,0)))))) (nth aF d5 p4).1 0) d7) (fun p7=>(opt (nth bB d0 a0).2.2.2.2.2.1 (opt (nth bB d0 a0).2.2.2.2.2.1 (gd (bz (len (α:=U3) [(a1,((nth (0,(0,(0,(0,(0,(0,0)))))) (nth aF d5 p4).1 0),((nth bB d0 a0).2.2.2.2.2.2,((-1),((-1),(0,(0,[])))))))]) 16777216) (k6 ((),((),((),((),((aj bB d0 a0 (fun kO=>(kO.1,(kO.2.1,(kO.2.2.1,(kO.2.2.2.1,(kO.2.2.2.2.1,((some (len d6)),kO.2.2.2.2.2.2)))))))),((aj aF (aj aF (aj aF (aj aF d5 p4 (fun cm=>((tk (aw (len cm.1) 1) (dr 1 cm.1)),cm.2))) p4 (fun db=>(db.1,(db.2.1,(db.2.2.1,(p7.1.1,db.2.2.2.2)))))) p4 (fun gA=>(gA.1,(gA.2.1,(gA.2.2.1,(gA.2.2.2.1,(true,gA.2.2.2.2.2))))))) p4 (fun kO=>(kO.1,(kO.2.1,(kO.2.2.1,(kO.2.2.2.1,(kO.2.2.2.2.1,0))))))),((cat d6 [(some [(a1,((nth (0,(0,(0,(0,(0,(0,0)))))) (nth aF d5 p4).1 0),((nth bB d0 a0).2.2.2.2.2.2,((-1),((-1),(0,(0,[])))))))])]),()))))))))) (fun p8=>(bd (aT d6 p8) (fun p9=>(gd (bz (aK (len p9) (len (α:=U3) [(a1,((nth (0,(0,(0,(0,(0,(0,0)))))) (nth aF d5 p4).1 0),((nth bB d0 a0).2.2.2.2.2.2,((-1),((-1),(0,(0,[])))))))])) 16777216) (gd (bp p8 (len d6)) (k6 ((),((),((),((),((aj bB d0 a0 (fun db=>(db.1,(db.2.1,(db.2.2.1,(db.2.2.2.1,(db.2.2.2.2.1,((some (len (aS d6 p8 none))),db.2.2.2.2.2.2)))))))),((aj aF (aj aF (aj aF (aj aF d5 p4 (fun bw=>((tk (aw (len bw.1) 1) (dr 1 bw.1)),bw.2))) p4 (fun bN=>(bN.1,(bN.2.1,(bN.2.2.1,(p7.1.1,bN.2.2.2.2)))))) p4 (fun cm=>(cm.1,(cm.2.1,(cm.2.2.1,(cm.2.2.2.1,(true,cm.2.2.2.2.2))))))) p4 (fun db=>(db.1,(db.2.1,(db.2.2.1,(db.2.2.2.1,(db.2.2.2.2.1,0))))))),((cat (aS d6 p8 none) [(some (cat p9 [(a1,((nth (0,(0,(0,(0,(0,(0,0)))))) (nth aF d5 p4).1 0),((nth bB d0 a0).2.2.2.2.2.2,((-1),((-1),(0,(0,[])))))))]))]),())))))))))))))) (fun gB=>(bd (aT d6 gB) (fun lL=>(opt (nth bB d0 a0).2.2.2.2.2.1 (gd (bz (len (α:=U3) [(a1,((nth (0,(0,(0,(0,(0,(0,0)))))) (nth aF d5 p4).1 0),((nth bB d0 a0).2.2.2.2.2.2,((-1),((-1),(0,(0,[])))))))]) 16777216) (k6 ((),((),((),((),((aj bB d0 a0 (fun db=>(db.1,(db.2.1,(db.2.2.1,(db.2.2.2.1,(db.2.2.2.2.1,((some (len d6)),db.2.2.2.2.2.2)))))))),((aj aF (aj aF (aj aF (aj aF d5 p4 (fun bw=>((tk (aw (len bw.1) 1) (dr 1 bw.1)),bw.2))) p4 (fun bN=>(bN.1,(bN.2.1,(bN.2.2.1,(p7.1.1,bN.2.2.2.2)))))) p4 (fun cm=>(cm.1,(cm.2.1,(cm.2.2.1,(cm.2.2.2.1,(true,cm.2.2.2.2.2))))))) p4 (fun db=>(db.1,(db.2.1,(db.2.2.1,(db.2.2.2.1,(db.2.2.2.2.1,(zN (len lL))))))))),((cat d6 [(some [(a1,((nth (0,(0,(0,(0,(0,(0,0)))))) (nth aF d5 p4).1 0),((nth bB d0 a0).2.2.2.2.2.2,((-1),((-1),(0,(0,[])))))))])]),()))))))))) (fun cu=>(bd (aT d6 cu) (fun cw=>(gd (bz (aK (len cw) (len (α:=U3) [(a1,((nth (0,(0,(0,(0,(0,(0,0)))))) (nth aF d5 p4).1 0),((nth bB d0 a0).2.2.2.2.2.2,((-1),((-1),(0,(0,[])))))))])) 16777216) (gd (bp cu (len d6)) (k6 ((),((),((),((),((aj bB d0 a0 (fun bN=>(bN.1,(bN.2.1,(bN.2.2.1,(bN.2.2.2.1,(bN.2.2.2.2.1,((some (len (aS d6 cu none))),bN.2.2.2.2.2.2)))))))),((aj aF (aj aF (aj aF (aj aF d5 p4 (fun cg=>((tk (aw (len cg.1) 1) (dr 1 cg.1)),cg.2))) p4 (fun cH=>(cH.1,(cH.2.1,(cH.2.2.1,(p7.1.1,cH.2.2.2.2)))))) p4 (fun bw=>(bw.1,(bw.2.1,(bw.2.2.1,(bw.2.2.2.1,(true,bw.2.2.2.2.2))))))) p4 (fun bN=>(bN.1,(bN.2.1,(bN.2.2.1,(bN.2.2.2.1,(bN.2.2.2.2.1,(zN (len lL))))))))),((cat (aS d6 cu none) [(some (cat cw [(a1,((nth (0,(0,(0,(0,(0,(0,0)))))) (nth aF d5 p4).1 0),((nth bB d0 a0).2.2.2.2.2.2,((-1),((-1),(0,(0,[])))))))]))]),())))))))))))))))))))) (fun kg=>(bd (e.fW L J (nth bB d0 a0).1 (some kg) (nth aF (aj aF d5 p4 (fun kO=>((tk (aw (len kO.1) 1) (dr 1 kO.1)),kO.2))) p4).2.2.1 (nth (0,(0,(0,(0,(0,(0,0)))))) (nth aF d5 p4).1 0) d7) (fun dM=>(opt (nth bB d0 a0).2.2.2.2.2.1 (opt (nth bB d0 a0).2.2.2.2.2.1 (gd (bz (len (α:=U3) [(a1,((nth (0,(0,(0,(0,(0,(0,0)))))) (nth aF d5 p4).1 0),((nth bB d0 a0).2.2.2.2.2.2,((-1),((-1),(0,(0,[])))))))]) 16777216) (k6 ((),((),((),((),((aj bB d0 a0 (fun gA=>(gA.1,(gA.2.1,(gA.2.2.1,(gA.2.2.2.1,(gA.2.2.2.2.1,((some (len d6)),gA.2.2.2.2.2.2)))))))),((aj aF (aj aF (aj aF (aj aF d5 p4 (fun bN=>((tk (aw (len bN.1) 1) (dr 1 bN.1)),bN.2))) p4 (fun cm=>(cm.1,(cm.2.1,(cm.2.2.1,(dM.1.1,cm.2.2.2.2)))))) p4 (fun db=>(db.1,(db.2.1,(db.2.2.1,(db.2.2.2.1,(true,db.2.2.2.2.2))))))) p4 (fun gA=>(gA.1,(gA.2.1,(gA.2.2.1,(gA.2.2.2.1,(gA.2.2.2.2.1,0))))))),((cat d6 [(some [(a1,((nth (0,(0,(0,(0,(0,(0,0)))))) (nth aF d5 p4).1 0),((nth bB d0 a0).2.2.2.2.2.2,((-1),((-1),(0,(0,[])))))))])]),()))))))))) (fun fb=>(bd (aT d6 fb) (fun gx=>(gd (bz (aK (len gx) (len (α:=U3) [(a1,((nth (0,(0,(0,(0,(0,(0,0)))))) (nth aF d5 p4).1 0),((nth bB d0 a0).2.2.2.2.2.2,((-1),((-1),(0,(0,[])))))))])) 16777216) (gd (bp fb (len d6)) (k6 ((),((),((),((),((aj bB d0 a0 (fun cm=>(cm.1,(cm.2.1,(cm.2.2.1,(cm.2.2.2.1,(cm.2.2.2.2.1,((some (len (aS d6 fb none))),cm.2.2.2.2.2.2)))))))),((aj aF (aj aF (aj aF (aj aF d5 p4 (fun cH=>((tk (aw (len cH.1) 1) (dr 1 cH.1)),cH.2))) p4 (fun bw=>(bw.1,(bw.2.1,(bw.2.2.1,(dM.1.1,bw.2.2.2.2)))))) p4 (fun bN=>(bN.1,(bN.2.1,(bN.2.2.1,(bN.2.2.2.1,(true,bN.2.2.2.2.2))))))) p4 (fun cm=>(cm.1,(cm.2.1,(cm.2.2.1,(cm.2.2.2.1,(cm.2.2.2.2.1,0))))))),((cat (aS d6 fb none) [(some (cat gx [(a1,((nth (0,(0,(0,(0,(0,(0,0)))))) (nth aF d5 p4).1 0),((nth bB d0 a0).2.2.2.2.2.2,((-1),((-1),(0,(0,[])))))))]))]),())))))))))))))) (fun fI=>(bd (aT d6 fI) (fun kQ=>(opt (nth bB d0 a0).2.2.2.2.2.1 (gd (bz (len (α:=U3) [(a1,((nth (0,(0,(0,(0,(0,(0,0)))))) (nth aF d5 p4).1 0),((nth bB d0 a0).2.2.2.2.2.2,((-1),((-1),(0,(0,[])))))))]) 16777216) (k6 ((),((),((),((),((aj bB d0 a0 (fun cm=>(cm.1,(cm.2.1,(cm.2.2.1,(cm.2.2.2.1,(cm.2.2.2.2.1,((some (len d6)),cm.2.2.2.2.2.2)))))))),((aj aF (aj aF (aj aF (aj aF d5 p4 (fun cH=>((tk (aw (len cH.1) 1) (dr 1 cH.1)),cH.2))) p4 (fun bw=>(bw.1,(bw.2.1,(bw.2.2.1,(dM.1.1,bw.2.2.2.2)))))) p4 (fun bN=>(bN.1,(bN.2.1,(bN.2.2.1,(bN.2.2.2.1,(true,bN.2.2.2.2.2))))))) p4 (fun cm=>(cm.1,(cm.2.1,(cm.2.2.1,(cm.2.2.2.1,(cm.2.2.2.2.1,(zN (len kQ))))))))),((cat d6 [(some [(a1,((nth (0,(0,(0,(0,(0,(0,0)))))) (nth aF d5 p4).1 0),((nth bB d0 a0).2.2.2.2.2.2,((-1),((-1),(0,(0,[])))))))])]),()))))))))) (fun dW=>(bd (aT d6 dW) (fun l8=>(gd (bz (aK (len l8) (len (α:=U3) [(a1,((nth (0,(0,(0,(0,(0,(0,0)))))) (nth aF d5 p4).1 0),((nth bB d0 a0).2.2.2.2.2.2,((-1),((-1),(0,(0,[])))))))])) 16777216) (gd (bp dW (len d6)) (k6 ((),((),((),((),((aj bB d0 a0 (fun bw=>(bw.1,(bw.2.1,(bw.2.2.1,(bw.2.2.2.1,(bw.2.2.2.2.1,((some (len (aS d6 dW none))),bw.2.2.2.2.2.2)))))))),((aj aF (aj aF (aj aF (aj aF d5 p4 (fun kc=>((tk (aw (len kc.1) 1) (dr 1 kc.1)),kc.2))) p4 (fun cg=>(cg.1,(cg.2.1,(cg.2.2.1,(dM.1.1,cg.2.2.2.2)))))) p4 (fun cH=>(cH.1,(cH.2.1,(cH.2.2.1,(cH.2.2.2.1,(true,cH.2.2.2.2.2))))))) p4 (fun bw=>(bw.1,(bw.2.1,(bw.2.2.1,(bw.2.2.2.1,(bw.2.2.2.2.1,(zN (len kQ))))))))),((cat (aS d6 dW none) [(some (cat l8 [(a1,((nth (0,(0,(0,(0,(0,(0,0)))))) (nth aF d5 p4).1 0),((nth bB d0 a0).2.2.2.2.2.2,((-1),((-1),(0,(0,[])))))))]))]),()))))))))))))))))))))))))) (k6 ((),((),((),((),(d0,(d5,(d6,())))))))))) (fun (nP:(Unit×(Unit×(Unit×(Unit×(T0×(T6×(T7×Unit))))))))=>(J _ _ (fun (Md:(Unit×(Unit×(Unit×(Unit×(T1×(T2×(T3×(T4×(T6×(T9×Unit))))))))))→_)=>(bd (e.da L J a0 (nth aF nP.2.2.2.2.2.1 p4).2.2.2.1 nP.2.2.2.2.1 c0 nP.2.2.2.2.2.1 nP.2.2.2.2.2.2.1 d7 d1 d2 d3 d4 d8) (fun ju=>(Md ((),((),((),((),(ju.2.1,(ju.2.2.1,(ju.2.2.2.1,(ju.2.2.2.2.1,((aj aF nP.2.2.2.2.2.1 p4 (fun gA=>(gA.1,(gA.2.1,(gA.2.2.1,(ju.1.1,gA.2.2.2.2)))))),(ju.2.2.2.2.2.1,())))))))))))))) (fun (mW:(Unit×(Unit×(Unit×(Unit×(T1×(T2×(T3×(T4×(T6×(T9×Unit)))))))))))=>(opt (nth bB nP.2.2.2.2.1 a0).2.2.2.2.2.1 none (fun eK=>(bd (aT nP.2.2.2.2.2.2.1 eK) (fun lU=>(gd (bn (nth aF mW.2.2.2.2.2.2.2.2.1 p4).2.2.2.2.2) (gd (bp (nN (nth aF mW.2.2.2.2.2.2.2.2.1 p4).2.2.2.2.2) (len lU)) (J _ _ (fun (QK:(Unit×(Unit×(Unit×(Unit×(T7×Unit)))))→_)=>(br (nth aF mW.2.2.2.2.2.2.2.2.1 p4).2.2.2.1.2.2.2.2.2.2.2.2.2.2.2.2.2.2.2.2.1 (bd (aT nP.2.2.2.2.2.2.1 eK) (fun jm=>(QK ((),((),((),((),((aS nP.2.2.2.2.2.2.1 eK (some (aj ko jm (nN (nth aF mW.2.2.2.2.2.2.2.2.1 p4).2.2.2.2.2) (fun bN=>(bN.1,(bN.2.1,(bN.2.2.1,((nth bB nP.2.2.2.2.1 a0).2.2.2.2.2.2,bN.2.2.2.2)))))))),())))))))) (QK ((),((),((),((),(nP.2.2.2.2.2.2.1,())))))))) (fun (By:(Unit×(Unit×(Unit×(Unit×(T7×Unit))))))=>(J _ _ (fun (QJ:(Unit×(Unit×(Unit×(Unit×(T6×(T7×(T2×Unit)))))))→_)=>(br (nth aF mW.2.2.2.2.2.2.2.2.1 p4).2.2.2.1.2.2.2.2.2.2.2.2.2.2.2.2.2.2.2.1 (bd (aT By.2.2.2.2.1 eK) (fun F4=>(bd (aT (aS By.2.2.2.2.1 eK (some (aj ko F4 (nN (nth aF mW.2.2.2.2.2.2.2.2.1 p4).2.2.2.2.2) (fun bw=>(bw.1,(bw.2.1,(bw.2.2.1,(bw.2.2.2.1,((nth bB nP.2.2.2.2.1 a0).2.2.2.2.2.2,bw.2.2.2.2.2))))))))) eK) (fun FZ=>(bd (e.cE L J p4 mW.2.2.2.2.2.2.2.2.1 d7) (fun vn=>(QJ ((),((),((),((),(vn.2.1,((aS (aS By.2.2.2.2.1 eK (some (aj ko F4 (nN (nth aF mW.2.2.2.2.2.2.2.2.1 p4).2.2.2.2.2) (fun cg=>(cg.1,(cg.2.1,(cg.2.2.1,(cg.2.2.2.1,((nth bB nP.2.2.2.2.1 a0).2.2.2.2.2.2,cg.2.2.2.2.2))))))))) eK (some (aj ko FZ (nN (nth aF mW.2.2.2.2.2.2.2.2.1 p4).2.2.2.2.2) (fun cg=>(cg.1,(cg.2.1,(cg.2.2.1,(cg.2.2.2.1,(cg.2.2.2.2.1,(nth aF mW.2.2.2.2.2.2.2.2.1 p4).2.2.2.1.2.2.2.2.2.2.2.2.2.2.2.2.2.2.2.2.2))))))))),(vn.2.2.1,())))))))))))))) (QJ ((),((),((),((),(mW.2.2.2.2.2.2.2.2.1,(By.2.2.2.2.1,(d7,())))))))))) (fun (Cd:(Unit×(Unit×(Unit×(Unit×(T6×(T7×(T2×Unit))))))))=>(bd (e.bx L J p4 Cd.2.2.2.2.1 Cd.2.2.2.2.2.2.1) (fun Kt=>(some ((Kt.1.1,(0,())),((aj bB nP.2.2.2.2.1 a0 (fun bw=>(bw.1,(bw.2.1,(bw.2.2.1,(bw.2.2.2.1,(bw.2.2.2.2.1,(bw.2.2.2.2.2.1,(ae IntKind.i64 bw.2.2.2.2.2.2 1))))))))),(mW.2.2.2.2.1,(mW.2.2.2.2.2.1,(mW.2.2.2.2.2.2.1,(mW.2.2.2.2.2.2.2.1,(Cd.2.2.2.2.1,(Cd.2.2.2.2.2.1,(Cd.2.2.2.2.2.2.1,(mW.2.2.2.2.2.2.2.2.2.1,()))))))))))))))))))))))))))))))))))))))))))) (fun Ks=>(bd (aT c0 Ks) (fun Kr=>(bd (e.ab L J a1 0 (aE IntKind.i64 (zN (len Kr)) 1)) (fun Kq=>(br (ax Kq.1.1) (some ((false,(2,())),(d0,(d1,(d2,(d3,(d4,(d5,(d6,(d7,(d8,()))))))))))) (opt (nth bB d0 a0).2.2.2.2.1 none (fun FY=>(bd (aT c0 FY) (fun Ko=>(gd (bn a1) (gd (bp (nN a1) (len Ko)) (bd (aT c0 FY) (fun Kn=>(opt (nth none Kn (nN a1)) none (fun b_=>(bd (e.bx L J b_ d5 d7) (fun Km=>(br Km.1.1 (some ((false,(23,())),(d0,(d1,(d2,(d3,(d4,(d5,(d6,(d7,(d8,()))))))))))) (J _ _ (fun (tY:(Unit×(Unit×(Unit×(Unit×(T0×(T6×(T7×Unit)))))))→_)=>(br (ax (nth aF d5 b_).2.2.2.2.1) (gd (bp 0 (len (nth aF d5 b_).1)) (gd (bz 1 (len (nth aF d5 b_).1)) (gd (bz (len (nth aF d5 b_).1) (len (nth aF d5 b_).1)) (opt (nth aF (aj aF d5 b_ (fun gA=>((tk (aw (len gA.1) 1) (dr 1 gA.1)),gA.2))) b_).2.1 (bd (e.fW L J (nth bB d0 a0).1 none (nth aF (aj aF d5 b_ (fun gA=>((tk (aw (len gA.1) 1) (dr 1 gA.1)),gA.2))) b_).2.2.1 (nth (0,(0,(0,(0,(0,(0,0)))))) (nth aF d5 b_).1 0) d7) (fun An=>(opt (nth bB d0 a0).2.2.2.2.2.1 (opt (nth bB d0 a0).2.2.2.2.2.1 (gd (bz (len (α:=U3) [(a1,((nth (0,(0,(0,(0,(0,(0,0)))))) (nth aF d5 b_).1 0),((nth bB d0 a0).2.2.2.2.2.2,((-1),((-1),(0,(0,[])))))))]) 16777216) (tY ((),((),((),((),((aj bB d0 a0 (fun db=>(db.1,(db.2.1,(db.2.2.1,(db.2.2.2.1,(db.2.2.2.2.1,((some (len d6)),db.2.2.2.2.2.2)))))))),((aj aF (aj aF (aj aF (aj aF d5 b_ (fun bw=>((tk (aw (len bw.1) 1) (dr 1 bw.1)),bw.2))) b_ (fun bN=>(bN.1,(bN.2.1,(bN.2.2.1,(An.1.1,bN.2.2.2.2)))))) b_ (fun cm=>(cm.1,(cm.2.1,(cm.2.2.1,(cm.2.2.2.1,(true,cm.2.2.2.2.2))))))) b_ (fun db=>(db.1,(db.2.1,(db.2.2.1,(db.2.2.2.1,(db.2.2.2.2.1,0))))))),((cat d6 [(some [(a1,((nth (0,(0,(0,(0,(0,(0,0)))))) (nth aF d5 b_).1 0),((nth bB d0 a0).2.2.2.2.2.2,((-1),((-1),(0,(0,[])))))))])]),()))))))))) (fun Am=>(bd (aT d6 Am) (fun Al=>(gd (bz (aK (len Al) (len (α:=U3) [(a1,((nth (0,(0,(0,(0,(0,(0,0)))))) (nth aF d5 b_).1 0),((nth bB d0 a0).2.2.2.2.2.2,((-1),((-1),(0,(0,[])))))))])) 16777216) (gd (bp Am (len d6)) (tY ((),((),((),((),((aj bB d0 a0 (fun bN=>(bN.1,(bN.2.1,(bN.2.2.1,(bN.2.2.2.1,(bN.2.2.2.2.1,((some (len (aS d6 Am none))),bN.2.2.2.2.2.2)))))))),((aj aF (aj aF (aj aF (aj aF d5 b_ (fun cg=>((tk (aw (len cg.1) 1) (dr 1 cg.1)),cg.2))) b_ (fun cH=>(cH.1,(cH.2.1,(cH.2.2.1,(An.1.1,cH.2.2.2.2)))))) b_ (fun bw=>(bw.1,(bw.2.1,(bw.2.2.1,(bw.2.2.2.1,(true,bw.2.2.2.2.2))))))) b_ (fun bN=>(bN.1,(bN.2.1,(bN.2.2.1,(bN.2.2.2.1,(bN.2.2.2.2.1,0))))))),((cat (aS d6 Am none) [(some (cat Al [(a1,((nth (0,(0,(0,(0,(0,(0,0)))))) (nth aF d5 b_).1 0),((nth bB d0 a0).2.2.2.2.2.2,((-1),((-1),(0,(0,[])))))))]))]),())))))))))))))) (fun Kl=>(bd (aT d6 Kl) (fun FX=>(opt (nth bB d0 a0).2.2.2.2.2.1 (gd (bz (len (α:=U3) [(a1,((nth (0,(0,(0,(0,(0,(0,0)))))) (nth aF d5 b_).1 0),((nth bB d0 a0).2.2.2.2.2.2,((-1),((-1),(0,(0,[])))))))]) 16777216) (tY ((),((),((),((),((aj bB d0 a0 (fun bN=>(bN.1,(bN.2.1,(bN.2.2.1,(bN.2.2.2.1,(bN.2.2.2.2.1,((some (len d6)),bN.2.2.2.2.2.2)))))))),((aj aF (aj aF (aj aF (aj aF d5 b_ (fun cg=>((tk (aw (len cg.1) 1) (dr 1 cg.1)),cg.2))) b_ (fun cH=>(cH.1,(cH.2.1,(cH.2.2.1,(An.1.1,cH.2.2.2.2)))))) b_ (fun bw=>(bw.1,(bw.2.1,(bw.2.2.1,(bw.2.2.2.1,(true,bw.2.2.2.2.2))))))) b_ (fun bN=>(bN.1,(bN.2.1,(bN.2.2.1,(bN.2.2.2.1,(bN.2.2.2.2.1,(zN (len FX))))))))),((cat d6 [(some [(a1,((nth (0,(0,(0,(0,(0,(0,0)))))) (nth aF d5 b_).1 0),((nth bB d0 a0).2.2.2.2.2.2,((-1),((-1),(0,(0,[])))))))])]),()))))))))) (fun FW=>(bd (aT d6 FW) (fun FV=>(gd (bz (aK (len FV) (len (α:=U3) [(a1,((nth (0,(0,(0,(0,(0,(0,0)))))) (nth aF d5 b_).1 0),((nth bB d0 a0).2.2.2.2.2.2,((-1),((-1),(0,(0,[])))))))])) 16777216) (gd (bp FW (len d6)) (tY ((),((),((),((),((aj bB d0 a0 (fun cH=>(cH.1,(cH.2.1,(cH.2.2.1,(cH.2.2.2.1,(cH.2.2.2.2.1,((some (len (aS d6 FW none))),cH.2.2.2.2.2.2)))))))),((aj aF (aj aF (aj aF (aj aF d5 b_ (fun kN=>((tk (aw (len kN.1) 1) (dr 1 kN.1)),kN.2))) b_ (fun kc=>(kc.1,(kc.2.1,(kc.2.2.1,(An.1.1,kc.2.2.2.2)))))) b_ (fun cg=>(cg.1,(cg.2.1,(cg.2.2.1,(cg.2.2.2.1,(true,cg.2.2.2.2.2))))))) b_ (fun cH=>(cH.1,(cH.2.1,(cH.2.2.1,(cH.2.2.2.1,(cH.2.2.2.2.1,(zN (len FX))))))))),((cat (aS d6 FW none) [(some (cat FV [(a1,((nth (0,(0,(0,(0,(0,(0,0)))))) (nth aF d5 b_).1 0),((nth bB d0 a0).2.2.2.2.2.2,((-1),((-1),(0,(0,[])))))))]))]),())))))))))))))))))))) (fun CH=>(bd (e.fW L J (nth bB d0 a0).1 (some CH) (nth aF (aj aF d5 b_ (fun db=>((tk (aw (len db.1) 1) (dr 1 db.1)),db.2))) b_).2.2.1 (nth (0,(0,(0,(0,(0,(0,0)))))) (nth aF d5 b_).1 0) d7) (fun Ak=>(opt (nth bB d0 a0).2.2.2.2.2.1 (opt (nth bB d0 a0).2.2.2.2.2.1 (gd (bz (len (α:=U3) [(a1,((nth (0,(0,(0,(0,(0,(0,0)))))) (nth aF d5 b_).1 0),((nth bB d0 a0).2.2.2.2.2.2,((-1),((-1),(0,(0,[])))))))]) 16777216) (tY ((),((),((),((),((aj bB d0 a0 (fun cm=>(cm.1,(cm.2.1,(cm.2.2.1,(cm.2.2.2.1,(cm.2.2.2.2.1,((some (len d6)),cm.2.2.2.2.2.2)))))))),((aj aF (aj aF (aj aF (aj aF d5 b_ (fun cH=>((tk (aw (len cH.1) 1) (dr 1 cH.1)),cH.2))) b_ (fun bw=>(bw.1,(bw.2.1,(bw.2.2.1,(Ak.1.1,bw.2.2.2.2)))))) b_ (fun bN=>(bN.1,(bN.2.1,(bN.2.2.1,(bN.2.2.2.1,(true,bN.2.2.2.2.2))))))) b_ (fun cm=>(cm.1,(cm.2.1,(cm.2.2.1,(cm.2.2.2.1,(cm.2.2.2.2.1,0))))))),((cat d6 [(some [(a1,((nth (0,(0,(0,(0,(0,(0,0)))))) (nth aF d5 b_).1 0),((nth bB d0 a0).2.2.2.2.2.2,((-1),((-1),(0,(0,[])))))))])]),()))))))))) (fun wL=>(bd (aT d6 wL) (fun vm=>(gd (bz (aK (len vm) (len (α:=U3) [(a1,((nth (0,(0,(0,(0,(0,(0,0)))))) (nth aF d5 b_).1 0),((nth bB d0 a0).2.2.2.2.2.2,((-1),((-1),(0,(0,[])))))))])) 16777216) (gd (bp wL (len d6)) (tY ((),((),((),((),((aj bB d0 a0 (fun bw=>(bw.1,(bw.2.1,(bw.2.2.1,(bw.2.2.2.1,(bw.2.2.2.2.1,((some (len (aS d6 wL none))),bw.2.2.2.2.2.2)))))))),((aj aF (aj aF (aj aF (aj aF d5 b_ (fun kc=>((tk (aw (len kc.1) 1) (dr 1 kc.1)),kc.2))) b_ (fun cg=>(cg.1,(cg.2.1,(cg.2.2.1,(Ak.1.1,cg.2.2.2.2)))))) b_ (fun cH=>(cH.1,(cH.2.1,(cH.2.2.1,(cH.2.2.2.1,(true,cH.2.2.2.2.2))))))) b_ (fun bw=>(bw.1,(bw.2.1,(bw.2.2.1,(bw.2.2.2.1,(bw.2.2.2.2.1,0))))))),((cat (aS d6 wL none) [(some (cat vm [(a1,((nth (0,(0,(0,(0,(0,(0,0)))))) (nth aF d5 b_).1 0),((nth bB d0 a0).2.2.2.2.2.2,((-1),((-1),(0,(0,[])))))))]))]),())))))))))))))) (fun E0=>(bd (aT d6 E0) (fun yq=>(opt (nth bB d0 a0).2.2.2.2.2.1 (gd (bz (len (α:=U3) [(a1,((nth (0,(0,(0,(0,(0,(0,0)))))) (nth aF d5 b_).1 0),((nth bB d0 a0).2.2.2.2.2.2,((-1),((-1),(0,(0,[])))))))]) 16777216) (tY ((),((),((),((),((aj bB d0 a0 (fun bw=>(bw.1,(bw.2.1,(bw.2.2.1,(bw.2.2.2.1,(bw.2.2.2.2.1,((some (len d6)),bw.2.2.2.2.2.2)))))))),((aj aF (aj aF (aj aF (aj aF d5 b_ (fun kc=>((tk (aw (len kc.1) 1) (dr 1 kc.1)),kc.2))) b_ (fun cg=>(cg.1,(cg.2.1,(cg.2.2.1,(Ak.1.1,cg.2.2.2.2)))))) b_ (fun cH=>(cH.1,(cH.2.1,(cH.2.2.1,(cH.2.2.2.1,(true,cH.2.2.2.2.2))))))) b_ (fun bw=>(bw.1,(bw.2.1,(bw.2.2.1,(bw.2.2.2.1,(bw.2.2.2.2.1,(zN (len yq))))))))),((cat d6 [(some [(a1,((nth (0,(0,(0,(0,(0,(0,0)))))) (nth aF d5 b_).1 0),((nth bB d0 a0).2.2.2.2.2.2,((-1),((-1),(0,(0,[])))))))])]),()))))))))) (fun Aj=>(bd (aT d6 Aj) (fun CG=>(gd (bz (aK (len CG) (len (α:=U3) [(a1,((nth (0,(0,(0,(0,(0,(0,0)))))) (nth aF d5 b_).1 0),((nth bB d0 a0).2.2.2.2.2.2,((-1),((-1),(0,(0,[])))))))])) 16777216) (gd (bp Aj (len d6)) (tY ((),((),((),((),((aj bB d0 a0 (fun cg=>(cg.1,(cg.2.1,(cg.2.2.1,(cg.2.2.2.1,(cg.2.2.2.2.1,((some (len (aS d6 Aj none))),cg.2.2.2.2.2.2)))))))),((aj aF (aj aF (aj aF (aj aF d5 b_ (fun rM=>((tk (aw (len rM.1) 1) (dr 1 rM.1)),rM.2))) b_ (fun kN=>(kN.1,(kN.2.1,(kN.2.2.1,(Ak.1.1,kN.2.2.2.2)))))) b_ (fun kc=>(kc.1,(kc.2.1,(kc.2.2.1,(kc.2.2.2.1,(true,kc.2.2.2.2.2))))))) b_ (fun cg=>(cg.1,(cg.2.1,(cg.2.2.1,(cg.2.2.2.1,(cg.2.2.2.2.1,(zN (len yq))))))))),((cat (aS d6 Aj none) [(some (cat CG [(a1,((nth (0,(0,(0,(0,(0,(0,0)))))) (nth aF d5 b_).1 0),((nth bB d0 a0).2.2.2.2.2.2,((-1),((-1),(0,(0,[])))))))]))]),()))))))))))))))))))))))))) (tY ((),((),((),((),(d0,(d5,(d6,())))))))))) (fun (n_:(Unit×(Unit×(Unit×(Unit×(T0×(T6×(T7×Unit))))))))=>(J _ _ (fun (Wh:(Unit×(Unit×(Unit×(Unit×(T1×(T2×(T3×(T4×(T6×(T9×Unit))))))))))→_)=>(bd (e.da L J a0 (nth aF n_.2.2.2.2.2.1 b_).2.2.2.1 n_.2.2.2.2.1 c0 n_.2.2.2.2.2.1 n_.2.2.2.2.2.2.1 d7 d1 d2 d3 d4 d8) (fun tI=>(Wh ((),((),((),((),(tI.2.1,(tI.2.2.1,(tI.2.2.2.1,(tI.2.2.2.2.1,((aj aF n_.2.2.2.2.2.1 b_ (fun cm=>(cm.1,(cm.2.1,(cm.2.2.1,(tI.1.1,cm.2.2.2.2)))))),(tI.2.2.2.2.2.1,())))))))))))))) (fun (mV:(Unit×(Unit×(Unit×(Unit×(T1×(T2×(T3×(T4×(T6×(T9×Unit)))))))))))=>(opt (nth bB n_.2.2.2.2.1 a0).2.2.2.2.2.1 none (fun rV=>(bd (aT n_.2.2.2.2.2.2.1 rV) (fun FU=>(gd (bn (nth aF mV.2.2.2.2.2.2.2.2.1 b_).2.2.2.2.2) (gd (bp (nN (nth aF mV.2.2.2.2.2.2.2.2.1 b_).2.2.2.2.2) (len FU)) (J _ _ (fun (QI:(Unit×(Unit×(Unit×(Unit×(T7×Unit)))))→_)=>(br (nth aF mV.2.2.2.2.2.2.2.2.1 b_).2.2.2.1.2.2.2.2.2.2.2.2.2.2.2.2.2.2.2.2.1 (bd (aT n_.2.2.2.2.2.2.1 rV) (fun Kk=>(QI ((),((),((),((),((aS n_.2.2.2.2.2.2.1 rV (some (aj ko Kk (nN (nth aF mV.2.2.2.2.2.2.2.2.1 b_).2.2.2.2.2) (fun cH=>(cH.1,(cH.2.1,(cH.2.2.1,((nth bB n_.2.2.2.2.1 a0).2.2.2.2.2.2,cH.2.2.2.2)))))))),())))))))) (QI ((),((),((),((),(n_.2.2.2.2.2.2.1,())))))))) (fun (EY:(Unit×(Unit×(Unit×(Unit×(T7×Unit))))))=>(J _ _ (fun (QH:(Unit×(Unit×(Unit×(Unit×(T6×(T7×(T2×Unit)))))))→_)=>(br (nth aF mV.2.2.2.2.2.2.2.2.1 b_).2.2.2.1.2.2.2.2.2.2.2.2.2.2.2.2.2.2.2.1 (bd (aT EY.2.2.2.2.1 rV) (fun Qk=>(bd (aT (aS EY.2.2.2.2.1 rV (some (aj ko Qk (nN (nth aF mV.2.2.2.2.2.2.2.2.1 b_).2.2.2.2.2) (fun cg=>(cg.1,(cg.2.1,(cg.2.2.1,(cg.2.2.2.1,((nth bB n_.2.2.2.2.1 a0).2.2.2.2.2.2,cg.2.2.2.2.2))))))))) rV) (fun V3=>(bd (e.cE L J b_ mV.2.2.2.2.2.2.2.2.1 d7) (fun Kj=>(QH ((),((),((),((),(Kj.2.1,((aS (aS EY.2.2.2.2.1 rV (some (aj ko Qk (nN (nth aF mV.2.2.2.2.2.2.2.2.1 b_).2.2.2.2.2) (fun kN=>(kN.1,(kN.2.1,(kN.2.2.1,(kN.2.2.2.1,((nth bB n_.2.2.2.2.1 a0).2.2.2.2.2.2,kN.2.2.2.2.2))))))))) rV (some (aj ko V3 (nN (nth aF mV.2.2.2.2.2.2.2.2.1 b_).2.2.2.2.2) (fun kN=>(kN.1,(kN.2.1,(kN.2.2.1,(kN.2.2.2.1,(kN.2.2.2.2.1,(nth aF mV.2.2.2.2.2.2.2.2.1 b_).2.2.2.1.2.2.2.2.2.2.2.2.2.2.2.2.2.2.2.2.2))))))))),(Kj.2.2.1,())))))))))))))) (QH ((),((),((),((),(mV.2.2.2.2.2.2.2.2.1,(EY.2.2.2.2.1,(d7,())))))))))) (fun (Cc:(Unit×(Unit×(Unit×(Unit×(T6×(T7×(T2×Unit))))))))=>(bd (e.bx L J b_ Cc.2.2.2.2.1 Cc.2.2.2.2.2.2.1) (fun V2=>(some ((V2.1.1,(0,())),((aj bB n_.2.2.2.2.1 a0 (fun cg=>(cg.1,(cg.2.1,(cg.2.2.1,(cg.2.2.2.1,(cg.2.2.2.2.1,(cg.2.2.2.2.2.1,(ae IntKind.i64 cg.2.2.2.2.2.2 1))))))))),(mV.2.2.2.2.1,(mV.2.2.2.2.2.1,(mV.2.2.2.2.2.2.1,(mV.2.2.2.2.2.2.2.1,(Cc.2.2.2.2.1,(Cc.2.2.2.2.2.1,(Cc.2.2.2.2.2.2.1,(mV.2.2.2.2.2.2.2.2.2.1,())))))))))))))))))))))))))))))))))))))))))))))))
def e.fM (L:gY) (J:gZ) (v0:(Unit×(((List U3)×Unit)×pF))) (k:(((Int×Unit)×(((List U3)×Unit)×pF))→(Option (((List U3)×Unit)×Unit)))) (s:((Int×Unit)×(((List U3)×Unit)×pF))):(Option (((List U3)×Unit)×Unit)):=(br (aY s.1.1 (zN (len v0.2.1.1))) (gd (bn s.1.1) (gd (bp (nN s.1.1) (len s.2.1.1)) (bd (e.ct L J (nth ko s.2.1.1 (nN s.1.1)).2.2.2.2.2.2.2) (fun p0=>(gd (bn s.1.1) (gd (bp (nN s.1.1) (len s.2.1.1)) (k (((ae IntKind.i64 s.1.1 1),()),(((aj ko s.2.1.1 (nN s.1.1) (fun r1=>(r1.1,(r1.2.1,(r1.2.2.1,(r1.2.2.2.1,(r1.2.2.2.2.1,(r1.2.2.2.2.2.1,(r1.2.2.2.2.2.2.1,p0.1.1))))))))),()),((),((),()))))))))))) (some ((s.2.1.1,()),())))
def e.dR (L:gY) (J:gZ) (a0:Nat) (c0:T0) (c1:T1) (c2:T2) (c3:T3) (c4:T4) (c5:T5) (c6:T6) (c7:T7) (c8:T2) (c9:T9):(Option (((List U3)×Unit)×Unit)):=(J _ _ (fun (k0:(Unit×(((List U3)×Unit)×pF))→_)=>(opt (nth bB c0 a0).2.2.2.2.2.1 (k0 ((),(([],()),((),((),()))))) (fun p1=>(bd (aT c7 p1) (fun p2=>(gd (bz (len p2) 16777216) (k0 ((),((p2,()),((),((),()))))))))))) (fun (s3:(Unit×(((List U3)×Unit)×pF)))=>(L _ _ (e.fM L J s3) ((0,()),((s3.2.1.1,()),((),((),())))))))
def e.cq (L:gY) (J:gZ) (d0:T0) (d1:T1) (d2:T2) (d3:T3) (d4:T4) (d5:T5) (d6:T6) (d7:T7) (d8:T2) (d9:T9):Fl:=(bd (e.iC L J (2,(1,(0,64))) [] [[(2,(0,(0,(0,(64,(0,0)))))),(4,(0,(0,(0,(1,(0,0))))))]] d7 d0 d1 d2 d3 d4 d5 d6 d8 d9) (fun p0=>(opt p0.1.1 (J _ _ (fun (k1:(Unit×U2)→_)=>(some ((false,()),(p0.2.1,(p0.2.2.1,(p0.2.2.2.1,(p0.2.2.2.2.1,(p0.2.2.2.2.2.1,(p0.2.2.2.2.2.2.1,(p0.2.2.2.2.2.2.2.1,(d7,(p0.2.2.2.2.2.2.2.2.1,(p0.2.2.2.2.2.2.2.2.2.1,()))))))))))))) (fun (s2:(Unit×U2))=>none)) (fun p3=>(J _ _ (fun (k4:(Unit×U2)→_)=>(br (ax (af p0.1.2.1 0)) (some ((false,()),(p0.2.1,(p0.2.2.1,(p0.2.2.2.1,(p0.2.2.2.2.1,(p0.2.2.2.2.2.1,(p0.2.2.2.2.2.2.1,(p0.2.2.2.2.2.2.2.1,(d7,(p0.2.2.2.2.2.2.2.2.1,(p0.2.2.2.2.2.2.2.2.2.1,())))))))))))) (k4 ((),((),((),((),()))))))) (fun (s5:(Unit×U2))=>(bd (e.bQ L J p3 0 p0.2.2.2.2.2.2.1 p0.2.1 p0.2.2.1 p0.2.2.2.1 p0.2.2.2.2.1 p0.2.2.2.2.2.1 p0.2.2.2.2.2.2.2.1 d7 p0.2.2.2.2.2.2.2.2.1 p0.2.2.2.2.2.2.2.2.2.1) (fun p6=>(bd (e.bQ L J p3 0 p0.2.2.2.2.2.2.1 p6.2.1 p6.2.2.1 p6.2.2.2.1 p6.2.2.2.2.1 p6.2.2.2.2.2.1 p6.2.2.2.2.2.2.1 p6.2.2.2.2.2.2.2.1 p6.2.2.2.2.2.2.2.2.1 p6.2.2.2.2.2.2.2.2.2.1) (fun p7=>(bd (e.bQ L J p3 0 p0.2.2.2.2.2.2.1 p7.2.1 p7.2.2.1 p7.2.2.2.1 p7.2.2.2.2.1 p7.2.2.2.2.2.1 p7.2.2.2.2.2.2.1 p7.2.2.2.2.2.2.2.1 p7.2.2.2.2.2.2.2.2.1 p7.2.2.2.2.2.2.2.2.2.1) (fun p8=>(bd (e.dR L J p3 p8.2.1 p8.2.2.1 p8.2.2.2.1 p8.2.2.2.2.1 p8.2.2.2.2.2.1 p0.2.2.2.2.2.2.1 p8.2.2.2.2.2.2.1 p8.2.2.2.2.2.2.2.1 p8.2.2.2.2.2.2.2.2.1 p8.2.2.2.2.2.2.2.2.2.1) (fun p9=>(br p8.1.1 (br (af (zN (len p9.1.1)) 2) (gd (bp 0 (len p9.1.1)) (br (af (nth ko p9.1.1 0).2.2.1 0) (gd (bp 0 (len p9.1.1)) (br (af (nth ko p9.1.1 0).2.2.2.2.1 0) (gd (bp 1 (len p9.1.1)) (br (af (nth ko p9.1.1 1).2.2.1 1) (gd (bp 1 (len p9.1.1)) (br (af (nth ko p9.1.1 1).2.2.2.1 2) (gd (bp 1 (len p9.1.1)) (some (((af (nth ko p9.1.1 1).2.2.2.2.1 2),()),(p8.2.1,(p8.2.2.1,(p8.2.2.2.1,(p8.2.2.2.2.1,(p8.2.2.2.2.2.1,(p0.2.2.2.2.2.2.1,(p8.2.2.2.2.2.2.1,(p8.2.2.2.2.2.2.2.1,(p8.2.2.2.2.2.2.2.2.1,(p8.2.2.2.2.2.2.2.2.2.1,()))))))))))))) (some ((false,()),(p8.2.1,(p8.2.2.1,(p8.2.2.2.1,(p8.2.2.2.2.1,(p8.2.2.2.2.2.1,(p0.2.2.2.2.2.2.1,(p8.2.2.2.2.2.2.1,(p8.2.2.2.2.2.2.2.1,(p8.2.2.2.2.2.2.2.2.1,(p8.2.2.2.2.2.2.2.2.2.1,())))))))))))))) (some ((false,()),(p8.2.1,(p8.2.2.1,(p8.2.2.2.1,(p8.2.2.2.2.1,(p8.2.2.2.2.2.1,(p0.2.2.2.2.2.2.1,(p8.2.2.2.2.2.2.1,(p8.2.2.2.2.2.2.2.1,(p8.2.2.2.2.2.2.2.2.1,(p8.2.2.2.2.2.2.2.2.2.1,())))))))))))))) (some ((false,()),(p8.2.1,(p8.2.2.1,(p8.2.2.2.1,(p8.2.2.2.2.1,(p8.2.2.2.2.2.1,(p0.2.2.2.2.2.2.1,(p8.2.2.2.2.2.2.1,(p8.2.2.2.2.2.2.2.1,(p8.2.2.2.2.2.2.2.2.1,(p8.2.2.2.2.2.2.2.2.2.1,())))))))))))))) (some ((false,()),(p8.2.1,(p8.2.2.1,(p8.2.2.2.1,(p8.2.2.2.2.1,(p8.2.2.2.2.2.1,(p0.2.2.2.2.2.2.1,(p8.2.2.2.2.2.2.1,(p8.2.2.2.2.2.2.2.1,(p8.2.2.2.2.2.2.2.2.1,(p8.2.2.2.2.2.2.2.2.2.1,())))))))))))))) (some ((false,()),(p8.2.1,(p8.2.2.1,(p8.2.2.2.1,(p8.2.2.2.2.1,(p8.2.2.2.2.2.1,(p0.2.2.2.2.2.2.1,(p8.2.2.2.2.2.2.1,(p8.2.2.2.2.2.2.2.1,(p8.2.2.2.2.2.2.2.2.1,(p8.2.2.2.2.2.2.2.2.2.1,()))))))))))))) (some ((false,()),(p8.2.1,(p8.2.2.1,(p8.2.2.2.1,(p8.2.2.2.2.1,(p8.2.2.2.2.2.1,(p0.2.2.2.2.2.2.1,(p8.2.2.2.2.2.2.1,(p8.2.2.2.2.2.2.2.1,(p8.2.2.2.2.2.2.2.2.1,(p8.2.2.2.2.2.2.2.2.2.1,())))))))))))))))))))))))))))
theorem B8:g.cq [] [] [] [] [] [] [] [] [] []=e.cq Wd Wj [] [] [] [] [] [] [] [] [] []:=by kernel_rfl
theorem B9:(match e.cq Uj Uo [] [] [] [] [] [] [] [] [] [] with | some r=>r.1.1 | none=>false)=true:=by decide +kernel
theorem B7:Shown:=by
 have h:=B9
 rw [←C3,←Dg,←B8] at h
 cases hs:g.cq [] [] [] [] [] [] [] [] [] [] with
 | none=>rw [hs] at h;cases h
 | some r=>rw [hs] at h;exact ⟨r,hs,h⟩
end Go.Proofs.YtfffmmahegdfiaaGreat