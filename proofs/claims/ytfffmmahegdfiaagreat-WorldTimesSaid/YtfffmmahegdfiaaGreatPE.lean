/- Texts of one proof, put together: see each part. -/
import Derived.Test.YtfffmmahegdfiaaGreatPD
set_option maxHeartbeats 2000000
noncomputable section
set_option linter.unusedVariables false
set_option linter.unusedSimpArgs false
namespace Go.Proofs.YtfffmmahegdfiaaGreat
open Go.Bm Go.oQ
theorem cH {l:List (Int×Bool)} (hl:l.length≤100) (p:mE) (w:Int):Ok (g.cD p l w) (fun _=>True):=by
 unfold g.cD
 exact .bd (bU _) fun q _=>.l7 (fun _=>True) (fun s _=>.br (fun _=>.some trivial) fun _=>.gC (nf _ (by omega)) (.br (fun _=>.some trivial) fun _=>.some trivial)) fun k hk=>.br (fun _=>hk _ trivial) fun _=>hk _ trivial
theorem c_ {l:List (Int×Bool)} (hl:l.length≤100) (s b:Int):Ok (g.ja l s b) (fun _=>True):=⟨_,r_ s b (by omega),trivial⟩
def rF (u:U8):U1:=((u.2.2.2.2.2.1,(u.2.2.2.2.2.2.1,(u.2.2.2.2.2.2.2.1,(u.2.2.2.2.2.2.2.2.1,(u.2.2.2.2.2.2.2.2.2.1,(u.2.2.2.2.2.2.2.2.2.2.1,u.2.2.2.2.2.2.2.2.2.2.2.1)))))),(u.2.2.2.2.2.2.2.2.2.2.2.2.1,(u.2.2.2.2.2.2.2.2.2.2.2.2.2.1,(u.2.2.2.2.2.2.2.2.2.2.2.2.2.2.1,(u.2.2.2.2.2.2.2.2.2.2.2.2.2.2.2.1,(u.2.2.2.2.2.2.2.2.2.2.2.2.2.2.2.2.1,(u.2.2.2.2.2.2.2.2.2.2.2.2.2.2.2.2.2.1,(u.2.2.2.2.2.2.2.2.2.2.2.2.2.2.2.2.2.2.1,(u.2.2.2.2.2.2.2.2.2.2.2.2.2.2.2.2.2.2.2.1,(u.2.2.2.2.2.2.2.2.2.2.2.2.2.2.2.2.2.2.2.2.1,(u.2.2.2.2.2.2.2.2.2.2.2.2.2.2.2.2.2.2.2.2.2.1,(u.2.2.2.2.2.2.2.2.2.2.2.2.2.2.2.2.2.2.2.2.2.2.1,(u.2.2.2.2.2.2.2.2.2.2.2.2.2.2.2.2.2.2.2.2.2.2.2.1,(u.2.2.2.2.2.2.2.2.2.2.2.2.2.2.2.2.2.2.2.2.2.2.2.2.1,(u.2.2.2.2.2.2.2.2.2.2.2.2.2.2.2.2.2.2.2.2.2.2.2.2.2.1,(u.2.2.2.2.2.2.2.2.2.2.2.2.2.2.2.2.2.2.2.2.2.2.2.2.2.2.1,(u.2.2.2.2.2.2.2.2.2.2.2.2.2.2.2.2.2.2.2.2.2.2.2.2.2.2.2.1,(u.2.2.2.2.2.2.2.2.2.2.2.2.2.2.2.2.2.2.2.2.2.2.2.2.2.2.2.2.1,(u.2.2.2.2.2.2.2.2.2.2.2.2.2.2.2.2.2.2.2.2.2.2.2.2.2.2.2.2.2.1,u.2.2.2.2.2.2.2.2.2.2.2.2.2.2.2.2.2.2.2.2.2.2.2.2.2.2.2.2.2.2.1)))))))))))))))))))
theorem BM {n:Nat} {r:U1} (h:ru n r) (ho:Rn.op r≠4∧Rn.op r≠5∧Rn.op r≠7) (GB:Rn.pc r≠0∧Rn.pc r≠1) {c0:T1} {d0:T2} {a j m:Nat} (hA:AR c0 d0 a j m) (p:mE):Ok (g.jR p a r c0 d0) (LR n r c0 a j m):=by
 unfold g.jR
 obtain ⟨h1,h2,h3,h4,h5,h6,h7,h8⟩:=h
 have hl:(Rn.list r).length≤n+1:=by omega
 have hs:(Rn.said r).length≤n+1:=by omega
 have mg:(Rn.op r=8∧(Rn.pc r=5∨Rn.pc r=6∨Rn.pc r=9))∨(Rn.op r=9∧(Rn.pc r=5∨Rn.pc r=6∨Rn.pc r=7∨Rn.pc r=8∨Rn.pc r=10))∨(Rn.op r=10∧Rn.pc r=11)∨(Rn.op r=11∧(Rn.pc r=12∨Rn.pc r=7∨Rn.pc r=8)):=by
  unfold dn at h8;omega
 have hd:∀{x y:Option xI} {P:xI→Prop},Ok y P→Ok (br (Rn.done r) x y) P:=fun {x y P} k=>by rw [h4];exact k
 have tell:∀(r':U1) (c k:Int) (d':T2),r'.1=r.1→Rn.ch r'=Rn.ch r→Rn.list r'=Rn.list r→Rn.said r'=Rn.said r→AR c0 d' a j m→Ok (bd (g.bh r' c k) (fun p=>some ((p.1.1,(0,())),(d',())))) (LR n r c0 a j m):=fun r' c k d' e1 e2 e3 e4 rX=>
  .bd (jH n c k e1 e2 (by rw [e3];exact hl) (by rw [e4];exact hs) h7) fun q hh=>.some ⟨hh.1,rX⟩
 have fin:∀(r':U1) (d':T2),r'.1=r.1→Rn.ch r'=Rn.ch r→Rn.list r'=Rn.list r→Rn.said r'=Rn.said r→Rn.done r'=Rn.done r→Rn.dg r'=Rn.dg r→dn (Rn.op r) (Rn.pc r')→AR c0 d' a j m→Ok (some ((r',(0,())),(d',()))) (LR n r c0 a j m):=fun r' d' e1 e2 e3 e4 e5 e6 e7 rX=>
  .some ⟨⟨e1,e2,by rw [e3];exact hl,by rw [e4];exact hs,fun e=>absurd (h4.symm.trans (e5.symm.trans e)) (by simp),e6.trans (h5.trans (h4.symm.trans e5.symm)),fun _ e=>by have e:Rn.pc r'=20∨Rn.pc r'=21:=e;unfold dn at e7;omega,fun _=>e7⟩,rX⟩
 have pcs:∀k:Int,Rn.pc r=k→dn (Rn.op r) k:=fun k e=>e▸h8
 refine .jn (hd (.gC (aM _ _ _) (.br (fun hb=>?_) fun _=>.jn ?_)))
 ·have hb:=pF.1 hb
  have hw:within (Rn.pc r) 5 12=true:=fp.2 (by omega)
  rw [show r.2.1=Rn.pc r from rfl,hw] at hb;cases hb
 refine .br (fun hp=>?_) fun n1=>.br (fun hp=>?_) fun n2=>.br (fun hp=>?_) fun n3=>.br (fun hp=>?_) fun n4=>?_
 ·have hp:Rn.pc r=5:=cU.1 hp
  have q1:dn (Rn.op r) 6:=by unfold dn;omega
  refine .bd (bU _) fun q _=>.bd (cu hA _ _) fun q _=>.br (fun _=>?_) fun _=>?_
  ·exact .br (fun _=>tell _ _ _ _ rfl rfl rfl rfl hA) fun _=>fin _ _ rfl rfl rfl rfl rfl rfl q1 hA
  ·exact .br (fun _=>tell _ _ _ _ rfl rfl rfl rfl hA) fun _=>fin _ _ rfl rfl rfl rfl rfl rfl q1 hA
 ·have hp:Rn.pc r=6:=cU.1 hp
  have q0:=pcs _ hp
  refine .bd (bU _) fun q _=>.bd (cO hA _) fun q _=>.br (fun _=>?_) fun _=>.br (fun _=>?_) fun _=>.br (fun _=>?_) fun _=>.gC (aM _ _ _) (.br (fun _=>?_) fun _=>.bd (cV hA _ _) fun q _=>.br (fun e8=>?_) fun n8=>.br (fun e8=>?_) fun _=>.bd (cH h3 _ _) fun q _=>?_)
  ·exact .br (fun _=>tell _ _ _ _ rfl rfl rfl rfl hA) fun _=>fin _ _ rfl rfl rfl rfl rfl rfl h8 hA
  ·exact .br (fun _=>tell _ _ _ _ rfl rfl rfl rfl hA) fun _=>fin _ _ rfl rfl rfl rfl rfl rfl h8 hA
  ·exact .br (fun _=>tell _ _ _ _ rfl rfl rfl rfl hA) fun _=>fin _ _ rfl rfl rfl rfl rfl rfl h8 hA
  ·exact .br (fun _=>tell _ _ _ _ rfl rfl rfl rfl hA) fun _=>fin _ _ rfl rfl rfl rfl rfl rfl h8 hA
  ·have e8:Rn.op r=8:=cU.1 e8
   have q1:dn (Rn.op r) 9:=by unfold dn;omega
   exact .br (fun _=>tell _ _ _ _ rfl rfl rfl rfl hA) fun _=>fin _ _ rfl rfl rfl rfl rfl rfl q1 hA
  ·have n8:¬Rn.op r=8:=cY.1 n8
   have q1:dn (Rn.op r) 10:=by unfold dn;omega
   exact .br (fun _=>tell _ _ _ _ rfl rfl rfl rfl hA) fun _=>fin _ _ rfl rfl rfl rfl rfl rfl q1 hA
  ·have n8:¬Rn.op r=8:=cY.1 n8
   have q1:dn (Rn.op r) 7:=by unfold dn;omega
   exact .br (fun _=>tell _ _ _ _ rfl rfl rfl rfl hA) fun _=>fin _ _ rfl rfl rfl rfl rfl rfl q1 hA
 ·have hp:Rn.pc r=7:=cU.1 hp
  have q1:dn (Rn.op r) 8:=by unfold dn;omega
  refine .bd (bU _) fun q _=>.bd (cu hA _ _) fun q _=>.br (fun _=>?_) fun _=>?_
  ·exact .br (fun _=>tell _ _ _ _ rfl rfl rfl rfl hA) fun _=>fin _ _ rfl rfl rfl rfl rfl rfl q1 hA
  ·exact .br (fun _=>tell _ _ _ _ rfl rfl rfl rfl hA) fun _=>fin _ _ rfl rfl rfl rfl rfl rfl q1 hA
 ·have hp:Rn.pc r=8:=cU.1 hp
  refine .bd (bU _) fun q _=>.l7 (fun s=>rF s.2.2.2.1.1=r) (fun s Ay=>?_) fun k hk=>.bd (cO hA _) fun q _=>.br (fun _=>hk _ rfl) fun _=>.br (fun _=>hk _ rfl) fun _=>.br (fun _=>hk _ rfl) fun _=>hk _ rfl
  have e1:(rF s.2.2.2.1.1).1=r.1:=congrArg (fun r:U1=>r.1) Ay
  have e2:Rn.ch (rF s.2.2.2.1.1)=Rn.ch r:=congrArg Rn.ch Ay
  have e3:Rn.list (rF s.2.2.2.1.1)=Rn.list r:=congrArg Rn.list Ay
  have e4:Rn.said (rF s.2.2.2.1.1)=Rn.said r:=congrArg Rn.said Ay
  have e5:Rn.done (rF s.2.2.2.1.1)=Rn.done r:=congrArg Rn.done Ay
  have e6:Rn.dg (rF s.2.2.2.1.1)=Rn.dg r:=congrArg Rn.dg Ay
  have hc:(Rn.ch (rF s.2.2.2.1.1)).length≤100:=by rw [Ay];exact h3
  refine .l7 (fun t=>dn (Rn.op r) t.1.2.1) (fun t ht=>.br (fun _=>.bd (c_ hc _ _) fun q _=>.br (fun _=>?_) fun _=>?_) fun _=>?_) fun k hk=>.br (fun h9=>.bd (bU _) fun q _=>hk _ ?_) fun h9=>hk _ ?_
  ·exact .br (fun _=>tell _ _ _ _ (by exact e1) (by exact e2) (by exact e3) (by exact e4) hA) fun _=>fin _ _ (by exact e1) (by exact e2) (by exact e3) (by exact e4) (by exact e5) (by exact e6) ht hA
  ·exact .br (fun _=>tell _ _ _ _ (by exact e1) (by exact e2) (by exact e3) (by exact e4) hA) fun _=>fin _ _ (by exact e1) (by exact e2) (by exact e3) (by exact e4) (by exact e5) (by exact e6) ht hA
  ·exact .br (fun _=>tell _ _ _ _ (by exact e1) (by exact e2) (by exact e3) (by exact e4) hA) fun _=>fin _ _ (by exact e1) (by exact e2) (by exact e3) (by exact e4) (by exact e5) (by exact e6) ht hA
  ·have h9:Rn.op (rF s.2.2.2.1.1)=9:=cU.1 h9
   rw [Ay] at h9
   show dn (Rn.op r) 10
   unfold dn;omega
  ·have h9:¬Rn.op (rF s.2.2.2.1.1)=9:=cY.1 h9
   rw [Ay] at h9
   show dn (Rn.op r) 12
   unfold dn;omega
 ·exact .l7 (fun s=>AR c0 s.2.2.2.2.1 a j m) (fun s h'=>.bd (jH n _ _ rfl rfl hl hs h7) fun q hh=>.some ⟨hh.1,h'⟩) fun k hk=>
   .l7 (fun _=>True) (fun s _=>.bd (fc hA _ _) fun q hq=>hk _ hq) fun k2 Dk=>.l7 (fun _=>True) (fun s _=>.bd (dC hA _) fun q _=>hk _ hA) fun k3 hk3=>.br (fun _=>.bd (bE _ _ _) fun q _=>hk3 _ trivial) fun _=>.br (fun _=>hk3 _ trivial) fun _=>.br (fun _=>.bd (bE _ _ _) fun q _=>Dk _ trivial) fun _=>Dk _ trivial
end Go.Proofs.YtfffmmahegdfiaaGreat
namespace Go.oQ
open Go.Bm
def Kl (o:oK):Prop:=(0≤o.1∧o.1≤4)∧(0≤o.2.1∧o.2.1≤99)∧(0≤o.2.2∧o.2.2≤8)
def u9 (l:List oK):Prop:=l.length≤8∧∀o∈l,Kl o
def DJ (l:List (List oK)):Prop:=l.length≤8∧∀x∈l,u9 x
end Go.oQ
namespace Go.Proofs.YtfffmmahegdfiaaGreat
open Go.Bm Go.oQ
theorem I7 {α:Type} (x:α):zN (len [x])=1:=by rw [fM,aF];rfl
theorem BC {α:Type} (x y:α):zN (len [x,y])=2:=by rw [fM,aF];rfl
theorem xC {α:Type} (l:List α):cat [] l=l:=rfl
section
variable (a0:List oK) (a1:Int) (a2:List Int)
theorem sN {x:Int} (hl:a2.length≤100) (h:within x 0 (aD .i64 (zN (len (cat [] a2))) 1)=true):0≤x∧x<a2.length:=by
 rw [xC,fM,aF,bM (by omega),fp] at h;omega
theorem fl2 {K} {P} (hl:a2.length≤100) (hK:∀b,(b=true→0≤(nth (0,(0,0)) a0 (nN a1)).2.1∧(nth (0,(0,0)) a0 (nN a1)).2.1<a2.length)→Ok (K ((b,()),((),((),((),()))))) P):Ok (loop (g.mn a0 a1 a2 K) ((0,()),((),((),((),()))))) P:=by
 refine .loop (fun m s=>(s.1.1=0∧m=1)∨(s.1.1=1∧m=0∧0≤(nth (0,(0,0)) a0 (nN a1)).2.1∧(nth (0,(0,0)) a0 (nN a1)).2.1<a2.length)) (fun m s gg hI ih=>?_) (N:=1) (by unfold lQ;omega) (.inl ⟨rfl,rfl⟩)
 unfold g.mn
 rw [I7]
 refine .br (fun hb=>?_) fun hb=>hK _ fun _=>?_
 ·have hb:=dX.1 hb
  have hs:s.1.1=0:=by omega
  rw [hs]
  refine .gd (by rw [bn];omega) (.gd (by rw [bA,cJ,aF,zO];omega) (.gC (aM _ _ _) (.br (fun _=>hK _ fun e=>?_) fun hw=>ih 0 _ (by omega) (.inr ⟨rfl,rfl,sN a2 hl (hO.1 hw)⟩))))
  exact absurd e (by decide)
 ·have hb:=iV.1 hb;omega
theorem fl1 {K} {P} (hl:a2.length≤100) (hK:∀b,(b=true→(0≤(nth (0,(0,0)) a0 (nN a1)).2.1∧(nth (0,(0,0)) a0 (nN a1)).2.1<a2.length)∧0≤(nth (0,(0,0)) a0 (nN a1)).2.2∧(nth (0,(0,0)) a0 (nN a1)).2.2<a2.length)→Ok (K ((b,()),((),((),((),()))))) P):Ok (loop (g.mo a0 a1 a2 K) ((0,()),((),((),((),()))))) P:=by
 refine .loop (fun m s=>(s.1.1=0∧m=2)∨(s.1.1=1∧m=1∧0≤(nth (0,(0,0)) a0 (nN a1)).2.1∧(nth (0,(0,0)) a0 (nN a1)).2.1<a2.length)∨(s.1.1=2∧m=0∧(0≤(nth (0,(0,0)) a0 (nN a1)).2.1∧(nth (0,(0,0)) a0 (nN a1)).2.1<a2.length)∧0≤(nth (0,(0,0)) a0 (nN a1)).2.2∧(nth (0,(0,0)) a0 (nN a1)).2.2<a2.length)) (fun m s gg hI ih=>?_) (N:=2) (by unfold lQ;omega) (.inl ⟨rfl,rfl⟩)
 unfold g.mo
 rw [BC]
 refine .br (fun hb=>?_) fun hb=>hK _ fun _=>?_
 ·have hb:=dX.1 hb
  rcases hI with ⟨hs,hm⟩ | ⟨hs,hm,h1⟩ | ⟨hs,hm,h1⟩
  ·rw [hs]
   refine .gd (by rw [bn];omega) (.gd (by rw [bA,cJ,aF];show _<2;omega) (.gC (aM _ _ _) (.br (fun _=>hK _ fun e=>absurd e (by decide)) fun hw=>ih 1 _ (by omega) (.inr (.inl ⟨rfl,rfl,sN a2 hl (hO.1 hw)⟩)))))
  ·rw [hs]
   refine .gd (by rw [bn];omega) (.gd (by rw [bA,cJ,aF];show _<2;omega) (.gC (aM _ _ _) (.br (fun _=>hK _ fun e=>absurd e (by decide)) fun hw=>ih 0 _ (by omega) (.inr (.inr ⟨rfl,rfl,h1,sN a2 hl (hO.1 hw)⟩)))))
  ·omega
 ·have hb:=iV.1 hb;omega
theorem fl0 {K} {P} (hl:a2.length≤100) (hK:∀b,Ok (K ((b,()),((),((),((),()))))) P):Ok (loop (g.mq a0 a1 a2 K) ((0,()),((),((),((),()))))) P:=by
 refine .loop (fun m s=>(s.1.1=0∧m=1)∨(s.1.1=1∧m=0∧0≤(nth (0,(0,0)) a0 (nN a1)).2.1∧(nth (0,(0,0)) a0 (nN a1)).2.1<a2.length)) (fun m s gg hI ih=>?_) (N:=1) (by unfold lQ;omega) (.inl ⟨rfl,rfl⟩)
 unfold g.mq
 rw [I7]
 refine .br (fun hb=>?_) fun hb=>?_
 ·have hb:=dX.1 hb
  have hs:s.1.1=0:=by omega
  rw [hs]
  refine .gd (by rw [bn];omega) (.gd (by rw [bA,cJ,aF,zO];omega) (.gC (aM _ _ _) (.br (fun _=>.br (fun e=>absurd e (by decide)) fun _=>hK _) fun hw=>ih 0 _ (by omega) (.inr ⟨rfl,rfl,sN a2 hl (hO.1 hw)⟩))))
 ·have hb:=iV.1 hb
  rcases hI with h | ⟨h1,h2,h3,h4⟩
  ·omega
  ·exact .gd (by rw [bn];omega) (.gd (by rw [bA,cJ,xC,aF];omega) (hK _))
theorem vN (nA:u9 a0) (hl:a2.length≤100):Ok (g.mr a0 a1 a2) (fun r=>r.1.2.1.length=a2.length∧r.1.2.2.1.length≤1):=by
 unfold g.mr
 refine .gd (by rw [dh,aF];show 0+_≤_;omega) (.gC (aM _ _ _) (.br (fun _=>.some ⟨rfl,by show 0≤1;omega⟩) fun hw=>?_))
 have hw:=hO.1 hw
 have hlen:=nA.1
 rw [fM,aF,bM (by omega),fp] at hw
 have ho:Kl (nth (0,(0,0)) a0 (nN a1)):=by
  have:nth (0,(0,0)) a0 (nN a1)∈a0:=by
   unfold nth
   rw [cJ,zA,zD (show a1.toNat<a0.length by omega)]
   exact List.getElem_mem _
  exact nA.2 _ this
 obtain ⟨⟨o1,o2⟩,o3,o4⟩:=ho
 refine .gd (by rw [bn];omega) (.gd (by rw [bA,cJ,aF];omega) (.l7 (fun s=>s.2.2.2.1.1.1.length=a2.length∧s.2.2.2.1.1.2.1.length≤1) (fun s hs=>.some hs) fun k hk=>?_))
 have z:([]:List Int).length≤1:=by decide
 refine .br (fun _=>.br (fun _=>.gd (by rw [dh,aF];show 1≤_;omega) (hk _ ⟨rfl,Nat.le_refl 1⟩)) fun n0=>.br (fun _=>.jn (fl2 a0 a1 a2 hl fun b hb=>.br (fun e=>?_) fun _=>hk _ ⟨rfl,z⟩)) fun n1=>.br (fun _=>.jn (fl1 a0 a1 a2 hl fun b hb=>.br (fun e=>?_) fun _=>hk _ ⟨rfl,z⟩)) fun n2=>.br (fun _=>.jn (fl0 a0 a1 a2 hl fun b=>.br (fun _=>hk _ ⟨rfl,z⟩) fun _=>hk _ ⟨rfl,z⟩)) fun n3=>.br (fun _=>hk _ ⟨rfl,z⟩) fun n4=>?_) fun _=>hk _ ⟨rfl,z⟩
 ·have:=hb e
  exact .gd (by rw [bn];omega) (.gd (by rw [bA,cJ,xC,aF];omega) (hk _ ⟨by show (aU (cat [] a2) _ _).length=_;rw [xC];unfold aU;rw [zM],z⟩))
 ·have:=hb e
  exact .gd (by rw [bn];omega) (.gd (by rw [bA,cJ,xC,aF];omega) (.gd (by rw [bn];omega) (.gd (by rw [bA,cJ,xC,aF];omega) (hk _ ⟨by show (aU (cat [] a2) _ _).length=_;rw [xC];unfold aU;rw [zM],z⟩))))
 ·have n0:=cY.1 n0;have n1:=cY.1 n1;have n2:=cY.1 n2;have n3:=cY.1 n3;have n4:=cY.1 n4
  omega
end
theorem Bc {x y:List Int} (hx:x.length≤1000000) (hy:y.length≤1000000):Ok (g.iO [x,y]) (fun r=>r.1.1.length=x.length+y.length):=by
 unfold g.iO
 refine .loop (fun m s=>0≤s.1.1∧((s.1.2.1=0∧m=2∧s.1.1=0)∨(s.1.2.1=1∧m=1∧s.1.1≤1000000)∨(s.1.2.1=2∧m=0∧s.1.1≤2000000))) (fun m s gg hI ih=>?_) (N:=2) (by unfold lQ;omega) ⟨by decide,.inl ⟨rfl,rfl,rfl⟩⟩
 unfold g.kK
 rw [BC]
 refine .br (fun hb=>?_) fun hb=>?_
 ·have hb:=dX.1 hb
  obtain ⟨h0,⟨h1,h2,h3⟩ | ⟨h1,h2,h3⟩ | ⟨h1,h2,h3⟩⟩:=hI
  ·have e:af .i64 s.1.1 (zN (len x))=s.1.1+x.length:=by rw [fM,aF];exact aS (by omega)
   rw [h1]
   refine .gd (by rw [bn];omega) (.gd (by rw [bA,cJ,aF];show _<2;omega) (.br (fun hb=>?_) fun _=>ih 1 _ (by omega) ⟨?_,.inr (.inl ⟨rfl,rfl,?_⟩)⟩))
   ·have hb:a_ (af .i64 s.1.1 (zN (len x))) 0=true:=hb
    rw [e] at hb;have:=dX.1 hb;omega
   ·show 0≤af .i64 s.1.1 (zN (len x));omega
   ·show af .i64 s.1.1 (zN (len x))≤_;omega
  ·have e:af .i64 s.1.1 (zN (len y))=s.1.1+y.length:=by rw [fM,aF];exact aS (by omega)
   rw [h1]
   refine .gd (by rw [bn];omega) (.gd (by rw [bA,cJ,aF];show _<2;omega) (.br (fun hb=>?_) fun _=>ih 0 _ (by omega) ⟨?_,.inr (.inr ⟨rfl,rfl,?_⟩)⟩))
   ·have hb:a_ (af .i64 s.1.1 (zN (len y))) 0=true:=hb
    rw [e] at hb;have:=dX.1 hb;omega
   ·show 0≤af .i64 s.1.1 (zN (len y));omega
   ·show af .i64 s.1.1 (zN (len y))≤_;omega
  ·omega
 ·have hb:=iV.1 hb
  refine .jn (.gd (by rw [bn];omega) (.gd (by rw [dh,cJ];omega) ?_))
  refine .loop (fun m s=>(s.1.1=0∧m=2∧s.2.1.1.length=0)∨(s.1.1=1∧m=1∧s.2.1.1.length=x.length)∨(s.1.1=2∧m=0∧s.2.1.1.length=x.length+y.length)) (fun m s gg hI ih=>?_) (N:=2) (by unfold lQ;omega) (.inl ⟨rfl,rfl,rfl⟩)
  unfold g.kL
  rw [BC]
  refine .br (fun hb=>?_) fun hb=>?_
  ·have hb:=dX.1 hb
   rcases hI with ⟨h1,h2,h3⟩ | ⟨h1,h2,h3⟩ | ⟨h1,h2,h3⟩
   ·rw [h1]
    refine .gd (by rw [bn];omega) (.gd (by rw [bA,cJ,aF];show _<2;omega) (.gd (by show bB (aL (len s.2.1.1) (len x)) _;rw [dh,aF,aF];show _+_≤_;omega) (ih 1 _ (by omega) (.inr (.inl ⟨rfl,rfl,?_⟩)))))
    show (s.2.1.1++x).length=_
    rw [zY];omega
   ·rw [h1]
    refine .gd (by rw [bn];omega) (.gd (by rw [bA,cJ,aF];show _<2;omega) (.gd (by show bB (aL (len s.2.1.1) (len y)) _;rw [dh,aF,aF];show _+_≤_;omega) (ih 0 _ (by omega) (.inr (.inr ⟨rfl,rfl,?_⟩)))))
    show (s.2.1.1++y).length=_
    rw [zY];omega
   ·omega
  ·have hb:=iV.1 hb
   refine .some ?_
   show s.2.1.1.length=_
   omega
open Go.Bm Go.oQ
def sO (u:(Int×(Int×(Int×(Int×((Option Nat)×((Option Nat)×U5))))))):U1:=((u.2.2.2.2.2.2.1,(u.2.2.2.2.2.2.2.1,(u.2.2.2.2.2.2.2.2.1,(u.2.2.2.2.2.2.2.2.2.1,(u.2.2.2.2.2.2.2.2.2.2.1,(u.2.2.2.2.2.2.2.2.2.2.2.1,u.2.2.2.2.2.2.2.2.2.2.2.2.1)))))),(u.2.2.2.2.2.2.2.2.2.2.2.2.2.1,(u.2.2.2.2.2.2.2.2.2.2.2.2.2.2.1,(u.2.2.2.2.2.2.2.2.2.2.2.2.2.2.2.1,(u.2.2.2.2.2.2.2.2.2.2.2.2.2.2.2.2.1,(u.2.2.2.2.2.2.2.2.2.2.2.2.2.2.2.2.2.1,(u.2.2.2.2.2.2.2.2.2.2.2.2.2.2.2.2.2.2.1,(u.2.2.2.2.2.2.2.2.2.2.2.2.2.2.2.2.2.2.2.1,(u.2.2.2.2.2.2.2.2.2.2.2.2.2.2.2.2.2.2.2.2.1,(u.2.2.2.2.2.2.2.2.2.2.2.2.2.2.2.2.2.2.2.2.2.1,(u.2.2.2.2.2.2.2.2.2.2.2.2.2.2.2.2.2.2.2.2.2.2.1,(u.2.2.2.2.2.2.2.2.2.2.2.2.2.2.2.2.2.2.2.2.2.2.2.1,(u.2.2.2.2.2.2.2.2.2.2.2.2.2.2.2.2.2.2.2.2.2.2.2.2.1,(u.2.2.2.2.2.2.2.2.2.2.2.2.2.2.2.2.2.2.2.2.2.2.2.2.2.1,(u.2.2.2.2.2.2.2.2.2.2.2.2.2.2.2.2.2.2.2.2.2.2.2.2.2.2.1,(u.2.2.2.2.2.2.2.2.2.2.2.2.2.2.2.2.2.2.2.2.2.2.2.2.2.2.2.1,(u.2.2.2.2.2.2.2.2.2.2.2.2.2.2.2.2.2.2.2.2.2.2.2.2.2.2.2.2.1,(u.2.2.2.2.2.2.2.2.2.2.2.2.2.2.2.2.2.2.2.2.2.2.2.2.2.2.2.2.2.1,(u.2.2.2.2.2.2.2.2.2.2.2.2.2.2.2.2.2.2.2.2.2.2.2.2.2.2.2.2.2.2.1,u.2.2.2.2.2.2.2.2.2.2.2.2.2.2.2.2.2.2.2.2.2.2.2.2.2.2.2.2.2.2.2.1)))))))))))))))))))
abbrev LW:=((U1×(Int×Unit))×(T1×(T2×(T9×Unit))))
def Ml (n:Nat) (r:U1) (c0:T1) (a j m:Nat) (d9:T9) (x:LW):Prop:=SP n r x.1.1∧x.2.1=c0∧AR c0 x.2.2.1 a j m∧x.2.2.2.1=d9
def EC (fo:Option Nat) (d9:T9):Prop:=∃iZ,DJ iZ∧((fo=none∧iZ=[])∨∃jf,fo=some jf∧aY d9 jf=some iZ)
theorem sG {fo:Option Nat} {d9:T9} (h:EC fo d9) (t:Int):Ok (g.mu fo t d9) (fun r=>u9 r.1.1):=by
 have z:u9 []:=⟨by decide,fun o h=>by cases h⟩
 obtain ⟨iZ,hf,⟨rfl,rfl⟩ | ⟨jf,rfl,hj⟩⟩:=h
 ·unfold g.mu
  refine .zx rfl (.gC (aM _ _ _) (.br (fun _=>.some z) fun hb=>?_))
  have:=fp.1 (hO.1 hb);omega
 ·unfold g.mu
  have h8:=hf.1
  refine .gG rfl (.gC hj (.gC (aM _ _ _) (.br (fun _=>.some z) fun hb=>?_)))
  have hb:=fp.1 (hO.1 hb)
  rw [fM,aF,bM (by omega)] at hb
  refine .gG rfl (.gC hj (.gd (by rw [bn];omega) (.gd (by rw [bA,cJ,aF];omega) (.gC hj (.some ?_)))))
  show u9 (nth [] iZ (nN t))
  unfold nth
  rw [cJ,zA,zD (show t.toNat<iZ.length by omega)]
  exact hf.2 _ (List.getElem_mem _)
theorem ne_nil {α:Type} {l:List α} (h:a_ 0 (zN (len l))=true):l≠[]:=by
 intro e
 rw [e,fM,aF] at h;have:=dX.1 h;exact absurd this (by simp)
theorem Jc {l:List Int} (h:l≠[]) (hl:l.length≤1000000):aD .i64 (zN (len l)) 1=((l.length-1:Nat):Int)∧l.length-1<l.length:=by
 have:0<l.length:=List.length_pos_iff.2 h
 rw [fM,aF,bM (by omega)]
 exact ⟨by omega,by omega⟩
theorem vt {n:Nat} {r:U1} (h:ru n r) (ho:Rn.op r=5) (GB:Rn.pc r≠0) {c0:T1} {d0:T2} {a j m:Nat} (hA:AR c0 d0 a j m) (p:mE) {fo:Option Nat} {d9:T9} (hf:EC fo d9):Ok (g.hC p fo a r c0 d0 d9) (Ml n r c0 a j m d9):=by
 unfold g.hC
 obtain ⟨h1,h2,h3,h4,h5,h6,h7,h8⟩:=h
 have hl:(Rn.list r).length≤n+1:=by omega
 have hs:(Rn.said r).length≤n+1:=by omega
 have L_:15≤Rn.pc r∧Rn.pc r≤26:=by
  have GB:¬Rn.pc r=0:=GB
  unfold dn at h8;rw [ho] at h8;omega
 have hd:∀{x y:Option LW} {P:LW→Prop},Ok y P→Ok (br (Rn.done r) x y) P:=fun {x y P} k=>by rw [h4];exact k
 have tell:∀(c k:Int) (d':T2),AR c0 d' a j m→Ok (bd (g.bh r c k) (fun p=>some ((p.1.1,(0,())),(c0,(d',(d9,())))))) (Ml n r c0 a j m d9):=fun c k d' rX=>
  .bd (jH n c k rfl rfl hl hs h7) fun q hh=>.some ⟨hh.1,rfl,rX,rfl⟩
 have fin:∀(k:Int) (r':U1) (c':T1) (d':T2),15≤k∧k≤26→Rn.pc r'=k→c'=c0→AR c0 d' a j m→r'.1=r.1→Rn.ch r'=Rn.ch r→Rn.done r'=Rn.done r→Rn.dg r'=Rn.dg r→(Rn.list r').length≤n+1→(Rn.said r').length≤n+1→(k=20∨k=21→Rn.list r'≠[])→Ok (some ((r',(0,())),(c',(d',(d9,()))))) (Ml n r c0 a j m d9):=fun k r' c' d' hk e0 ec rX e1 e2 e5 e6 e3 e4 e8=>
  .some ⟨⟨e1,e2,e3,e4,fun e=>absurd (h4.symm.trans (e5.symm.trans e)) (by simp),e6.trans (h5.trans (h4.symm.trans e5.symm)),fun _ e=>e8 (e0▸e),fun _=>.inr (.inr (.inr (.inr (.inl ⟨ho,by show 15≤Rn.pc r'∧Rn.pc r'≤26;rw [e0];exact hk⟩))))⟩,ec,rX,rfl⟩
 have pS:∀(k:Int) (r':U1) (d':T2),15≤k∧k≤26→(¬k=20∧¬k=21)→Rn.pc r'=k→AR c0 d' a j m→r'.1=r.1→Rn.ch r'=Rn.ch r→Rn.done r'=Rn.done r→Rn.dg r'=Rn.dg r→Rn.list r'=Rn.list r→Rn.said r'=Rn.said r→Ok (some ((r',(0,())),(c0,(d',(d9,()))))) (Ml n r c0 a j m d9):=fun k r' d' hk Dk e0 rX e1 e2 e5 e6 e3 e4=>
  fin k r' c0 d' hk e0 rfl rX e1 e2 e5 e6 (by rw [e3];exact hl) (by rw [e4];exact hs) (fun e=>by omega)
 have DL:∀(r':U1) (d':T2),Rn.pc r'=20→a_ 0 (zN (len (Rn.list r')))=true→(Rn.list r').length≤n+1→AR c0 d' a j m→r'.1=r.1→Rn.ch r'=Rn.ch r→Rn.done r'=Rn.done r→Rn.dg r'=Rn.dg r→Rn.said r'=Rn.said r→Ok (some ((r',(0,())),(c0,(d',(d9,()))))) (Ml n r c0 a j m d9):=fun r' d' e0 ez e3 rX e1 e2 e5 e6 e4=>
  fin 20 r' c0 d' (by decide) e0 rfl rX e1 e2 e5 e6 e3 (by rw [e4];exact hs) (fun _=>ne_nil ez)
 have qZ:∀(k:Int) (r':U1) (d':T2),15≤k∧k≤26→(¬k=20∧¬k=21)→Rn.pc r'=k→(Rn.list r').length≤n+1→AR c0 d' a j m→r'.1=r.1→Rn.ch r'=Rn.ch r→Rn.done r'=Rn.done r→Rn.dg r'=Rn.dg r→Rn.said r'=Rn.said r→Ok (some ((r',(0,())),(c0,(d',(d9,()))))) (Ml n r c0 a j m d9):=fun k r' d' hk Dk e0 e3 rX e1 e2 e5 e6 e4=>
  fin k r' c0 d' hk e0 rfl rX e1 e2 e5 e6 e3 (by rw [e4];exact hs) (fun e=>by omega)
 refine .br (fun _=>.jn (hd ?_)) fun n15=>.br (fun _=>.jn (hd ?_)) fun n16=>.br (fun _=>.jn (hd ?_)) fun n17=>.br (fun _=>.jn (hd ?_)) fun n18=>.br (fun _=>.jn (hd ?_)) fun n19=>.br (fun hp=>.jn (hd ?_)) fun n20=>.br (fun hp=>.jn (hd ?_)) fun n21=>.br (fun _=>.jn (hd ?_)) fun n22=>.br (fun _=>.jn (hd ?_)) fun n23=>.br (fun _=>.jn (hd ?_)) fun n24=>.br (fun _=>.jn (hd ?_)) fun n25=>.br (fun _=>.jn (hd ?_)) fun n26=>?_
 ·exact .bd (bE _ _ _) fun q _=>.bd (dC hA _) fun q _=>.bd (cb _) fun q _=>.gC (eR _) (.bd (cP _) fun q _=>pS 16 _ _ (by decide) (by decide) rfl hA rfl rfl rfl rfl rfl rfl)
 ·exact .bd (bE _ _ _) fun q _=>.bd (kG hA _ _ _) fun q hq=>.bd (cb _) fun q _=>.br (fun _=>pS 15 _ _ (by decide) (by decide) rfl hq rfl rfl rfl rfl rfl rfl) fun _=>.br (fun _=>pS 17 _ _ (by decide) (by decide) rfl hq rfl rfl rfl rfl rfl rfl) fun _=>tell _ _ _ hq
 ·exact .bd (bE _ _ _) fun q _=>.bd (dC hA _) fun q _=>pS 18 _ _ (by decide) (by decide) rfl hA rfl rfl rfl rfl rfl rfl
 ·exact .bd (bE _ _ _) fun q _=>.bd (dC hA _) fun q _=>.br (fun _=>pS 19 _ _ (by decide) (by decide) rfl hA rfl rfl rfl rfl rfl rfl) fun _=>.br (fun e=>DL _ _ rfl e hl hA rfl rfl rfl rfl rfl) fun _=>.br (fun _=>pS 22 _ _ (by decide) (by decide) rfl hA rfl rfl rfl rfl rfl rfl) fun _=>pS 23 _ _ (by decide) (by decide) rfl hA rfl rfl rfl rfl rfl rfl
 ·have e1:∀x:Int,(cat (Rn.list r) [x]).length≤n+1:=fun x=>by show (Rn.list r++[x]).length≤_;rw [zY];show _+1≤_;omega
  refine .bd (cO hA _) fun q _=>.br (fun _=>.opt (fun e0=>?_) fun jf e0=>?_) fun _=>?_
  rotate_left 2
  ·exact .br (fun _=>qZ 19 _ _ (by decide) (by decide) rfl hl hA rfl rfl rfl rfl rfl) fun _=>.br (fun e=>DL _ _ rfl e hl hA rfl rfl rfl rfl rfl) fun _=>.br (fun _=>qZ 22 _ _ (by decide) (by decide) rfl hl hA rfl rfl rfl rfl rfl) fun _=>qZ 23 _ _ (by decide) (by decide) rfl hl hA rfl rfl rfl rfl rfl
  all_goals
   rw [e0] at hf
   refine .bd (sG hf _) fun q _=>.br (fun _=>.gd (by show bB (len (Rn.list r)) _;rw [dh,aF];omega) (.gd (by show bB (aL (len (Rn.list r)) _) _;rw [dh,aF];show _+1≤_;omega) ?_)) fun _=>?_
   ·exact .br (fun _=>qZ 19 _ _ (by decide) (by decide) rfl (e1 _) hA rfl rfl rfl rfl rfl) fun _=>.br (fun e=>DL _ _ rfl e (e1 _) hA rfl rfl rfl rfl rfl) fun _=>.br (fun _=>qZ 22 _ _ (by decide) (by decide) rfl (e1 _) hA rfl rfl rfl rfl rfl) fun _=>qZ 23 _ _ (by decide) (by decide) rfl (e1 _) hA rfl rfl rfl rfl rfl
   ·exact .br (fun _=>qZ 19 _ _ (by decide) (by decide) rfl hl hA rfl rfl rfl rfl rfl) fun _=>.br (fun e=>DL _ _ rfl e hl hA rfl rfl rfl rfl rfl) fun _=>.br (fun _=>qZ 22 _ _ (by decide) (by decide) rfl hl hA rfl rfl rfl rfl rfl) fun _=>qZ 23 _ _ (by decide) (by decide) rfl hl hA rfl rfl rfl rfl rfl
 ·have hp:Rn.pc r=20:=cU.1 hp
  have ki:=h6 (.inl hp)
  obtain ⟨hi,hi2⟩:=Jc ki (by omega)
  refine .gd (by show bc (aD .i64 (zN (len (Rn.list r))) 1);rw [hi,bn];omega) (.gd (by show bf (nN (aD .i64 (zN (len (Rn.list r))) 1)) (len (Rn.list r));rw [hi,bA,aF];show Int.toNat _<_;omega) (.bd (cO hA _) fun q hq=>?_))
  obtain ⟨_,_,q1,q2⟩:=hq
  refine .gd (by rw [bn];exact q1) (.gd (by rw [dh,cJ];omega) (.gd (by rw [bn];exact q1) (.gd (by rw [dh,cJ];omega) ?_)))
  generalize hS:q.1.1.2.1=S at q1 q2 ⊢
  refine .loop (fun m' s=>s.2.2.2.2.1=c0∧s.2.1.1.length=S.toNat∧s.2.1.2.1.length=S.toNat∧∃k:Nat,s.1.1=(k:Int)∧k+m'=S.toNat) (fun m' s gg hI ih=>?_) (N:=S.toNat) (by unfold lQ;omega) ⟨rfl,by show (List.replicate _ _).length=_;rw [List.length_replicate];rfl,by show (List.replicate _ _).length=_;rw [List.length_replicate];rfl,0,rfl,by omega⟩
  obtain ⟨i1,i2,i3,k,i4,i5⟩:=hI
  unfold g.nb
  have eS:zN (len (rep (α:=Int) (nN q.1.1.2.1) 0))=S:=by
   rw [hS,fM,aF];show ((List.replicate _ _).length:Int)=_;rw [List.length_replicate];show ((S.toNat:Nat):Int)=S;omega
  rw [eS]
  have GO:AR s.2.2.2.2.1 d0 a j m:=by rw [i1];exact hA
  refine .br (fun hb=>?_) fun hb=>?_
  ·have hb:=dX.1 hb
   rw [i4] at hb ⊢
   have ek:nN (k:Int)=k:=rfl
   refine .bd (cV GO _ _) fun w _=>.gd (by rw [bn];omega) (.gd (by rw [bA,aF,ek];omega) (.gd (by rw [bn];omega) (.gd (by rw [bA,aF,ek];unfold aU;rw [zM];omega) (.bd (dC GO _) fun w2 _=>.gd (by rw [bn];omega) (.gd (by rw [bA,aF,ek];omega) (ih (m' - 1) _ (by omega) ⟨i1,?_,?_,k+1,?_,by omega⟩))))))
   ·show (aU _ _ _).length=_;unfold aU;rw [zM];exact i2
   ·show (aU _ _ _).length=_;unfold aU;rw [zM];exact i3
   ·show af .i64 (k:Int) 1=_;rw [aS (by omega)];rfl
  ·refine .opt (fun e0=>?_) fun jf e0=>?_
   all_goals
    rw [e0] at hf
    refine .bd (sG hf _) fun w hw=>.bd (vN _ _ _ hw (by omega)) fun v hv=>?_
    obtain ⟨v1,v2⟩:=hv
    refine .loop (fun m' t=>t.2.2.2.2.1=c0∧AR c0 t.2.2.2.2.2.1 a j m∧∃k:Nat,t.1.1=(k:Int)∧k+m'=S.toNat) (fun m' t gg hI ih=>?_) (N:=S.toNat) (by unfold lQ;omega) ⟨i1,hA,0,rfl,by omega⟩
    obtain ⟨t1,t2,k,t4,t5⟩:=hI
    unfold g.kz
    have e2:zN (len s.2.1.1)=(S.toNat:Nat):=by rw [fM,aF,i2]
    rw [e2]
    have AB:AR t.2.2.2.2.1 t.2.2.2.2.2.1 a j m:=by rw [t1];exact t2
    refine .br (fun hb=>?_) fun hb=>?_
    ·have hb:=dX.1 hb
     rw [t4] at hb ⊢
     have ek:nN (k:Int)=k:=rfl
     refine .gd (by rw [bn];omega) (.gd (by rw [bA,aF,ek];omega) (.gd (by rw [bn];omega) (.gd (by rw [bA,aF,ek];omega) (.bd (fc AB _ _) fun w2 hw2=>ih (m' - 1) _ (by omega) ⟨t1,?_,k+1,?_,by omega⟩))))
     ·rw [t1] at hw2;exact hw2
     ·show af .i64 (k:Int) 1=_;rw [aS (by omega)];rfl
    ·have hsl:∀x:List Int,x.length=(Rn.said r).length+v.1.2.2.1.length→x.length≤n+1:=fun x hx=>by omega
     refine .l7 (fun s=>(sO s.2.2.2.1.1).1=r.1∧Rn.ch (sO s.2.2.2.1.1)=Rn.ch r∧Rn.list (sO s.2.2.2.1.1)=Rn.list r∧(Rn.said (sO s.2.2.2.1.1)).length≤n+1∧Rn.done (sO s.2.2.2.1.1)=Rn.done r∧Rn.dg (sO s.2.2.2.1.1)=Rn.dg r∧Rn.pc (sO s.2.2.2.1.1)=Rn.pc r) (fun s' Ay=>?_) fun k hk=>.bd (Bc (by show (Rn.said r).length≤_;omega) (by omega)) fun w hw=>.br (fun _=>hk _ ⟨rfl,rfl,rfl,hsl _ hw,rfl,rfl,rfl⟩) fun _=>hk _ ⟨rfl,rfl,rfl,hsl _ hw,rfl,rfl,rfl⟩
     obtain ⟨u1,u2,u3,u4,u5,u6,u7⟩:=Ay
     have QQ:Rn.list (sO s'.2.2.2.1.1)≠[]:=by rw [u3];exact ki
     have Uu:(Rn.list (sO s'.2.2.2.1.1)).length≤n+1:=by rw [u3];exact hl
     exact .br (fun _=>fin 21 _ _ _ (by decide) rfl t1 t2 u1 u2 u5 u6 Uu u4 (fun _=>QQ)) fun _=>fin 20 _ _ _ (by decide) (u7.trans hp) t1 t2 u1 u2 u5 u6 Uu u4 (fun _=>QQ)
 ·have hp:Rn.pc r=21:=cU.1 hp
  have ki:=h6 (.inr hp)
  obtain ⟨hi,hi2⟩:=Jc ki (by omega)
  have hz:nN (aD .i64 (zN (len (Rn.list r))) 1)=(Rn.list r).length-1:=by rw [hi];rfl
  have ht:(tk (ax (nN (aD .i64 (zN (len (Rn.list r))) 1)) 0) (dr 0 (Rn.list r))).length≤n+1:=by
   show (List.take _ (List.drop 0 _)).length≤_
   rw [List.length_take,List.length_drop];omega
  have gl:bB (len (tk (ax (nN (aD .i64 (zN (len (Rn.list r))) 1)) 0) (dr 0 (Rn.list r)))) 16777216:=by rw [dh,aF];omega
  refine .gd (by show bc (aD .i64 (zN (len (Rn.list r))) 1);rw [hi,bn];omega) (.gd (by show bf (nN (aD .i64 (zN (len (Rn.list r))) 1)) (len (Rn.list r));rw [hz,bA,aF];omega) (.bd (dw hA _) fun q hq=>.gd (by show bc (aD .i64 (zN (len (Rn.list r))) 1);rw [hi,bn];omega) (.gd (by rw [dh];exact Nat.zero_le _) (.gd (by show bB (nN (aD .i64 (zN (len (Rn.list r))) 1)) (len (Rn.list r));rw [hz,dh,aF];omega) (.gd gl ?_)))))
  exact .br (fun e=>DL _ _ rfl e ht hq rfl rfl rfl rfl rfl) fun _=>.br (fun _=>qZ 22 _ _ (by decide) (by decide) rfl ht hq rfl rfl rfl rfl rfl) fun _=>qZ 23 _ _ (by decide) (by decide) rfl ht hq rfl rfl rfl rfl rfl
 ·exact .bd (cb _) fun q _=>.jn (.bd (eV _) fun q _=>.bd (cP _) fun q _=>.bd (bE _ _ _) fun q _=>.bd (fc hA _ _) fun q hq=>tell _ _ _ hq)
 ·exact .bd (bE _ _ _) fun q _=>.bd (fc hA _ _) fun q hq=>.br (fun _=>pS 24 _ _ (by decide) (by decide) rfl hq rfl rfl rfl rfl rfl rfl) fun _=>pS 25 _ _ (by decide) (by decide) rfl hq rfl rfl rfl rfl rfl rfl
 ·exact .bd (fc hA _ _) fun q hq=>.br (fun _=>pS 24 _ _ (by decide) (by decide) rfl hq rfl rfl rfl rfl rfl rfl) fun _=>pS 25 _ _ (by decide) (by decide) rfl hq rfl rfl rfl rfl rfl rfl
 ·exact .bd (bE _ _ _) fun q _=>.bd (fc hA _ _) fun q hq=>pS 26 _ _ (by decide) (by decide) rfl hq rfl rfl rfl rfl rfl rfl
 ·exact .bd (cb _) fun q _=>.jn (.gC (fR _) (.bd (cP _) fun q _=>.bd (bE _ _ _) fun q _=>.bd (fc hA _ _) fun q hq=>tell _ _ _ hq))
 ·have n15:¬Rn.pc r=_:=cY.1 n15;have n16:¬Rn.pc r=_:=cY.1 n16;have n17:¬Rn.pc r=_:=cY.1 n17;have n18:¬Rn.pc r=_:=cY.1 n18;have n19:¬Rn.pc r=_:=cY.1 n19;have n20:¬Rn.pc r=_:=cY.1 n20;have n21:¬Rn.pc r=_:=cY.1 n21;have n22:¬Rn.pc r=_:=cY.1 n22;have n23:¬Rn.pc r=_:=cY.1 n23;have n24:¬Rn.pc r=_:=cY.1 n24;have n25:¬Rn.pc r=_:=cY.1 n25;have n26:¬Rn.pc r=_:=cY.1 n26
  omega
end Go.Proofs.YtfffmmahegdfiaaGreat
namespace Go.oQ
open Go.Bm
def je (x:Xt):Prop:=0≤x.1∧0≤x.2∧x.1+x.2≤131072
def lP:List Xt→Int→Option Nat
 | [],_=>none
 | x::l,n=>if n≤x.2 then some 0 else (lP l n).map (· + 1)
def behind:List Xt→Int→Nat
 | [],_=>0
 | x::l,a=>if a<x.1+x.2 then 0 else behind l a+1
def mc (acc:List Xt) (x:Xt):List Xt:=match acc.getLast? with
 | some y=>if y.1+y.2=x.1 then acc.dropLast++[(y.1,y.2+x.2)] else acc++[x]
 | none=>[x]
def jr (acc l:List Xt):List Xt:=l.foldl mc acc
def Dz (fr en:Int) (l:List Xt) (a n:Int):Option (List Xt):=
 if n<1∨n%8≠0∨a%8≠0∨¬(fr≤a∧a≤en-1)∨en-a<n then none
 else if behind l a<l.length∧(l.getD (behind l a) (0,0)).1<a+n then none
 else some (jr [] (l.take (behind l a)++[(a,n)]++l.drop (behind l a)))
theorem rn:∀{l:List Xt} {n:Int} {i:Nat},lP l n=some i→i<l.length∧n≤(l.getD i (0,0)).2
 | [],_,_,h=>by cases h
 | x::l,n,i,h=>by
  unfold lP at h
  split at h
  ·cases h;exact ⟨by simp,by simpa⟩
  ·cases hh:lP l n with
   | none=>rw [hh] at h;cases h
   | some j=>
    rw [hh] at h
    have h:j+1=i:=by simpa using h
    have:=rn hh
    subst h
    exact ⟨by simp;omega,by simpa using this.2⟩
theorem xD (l:List Xt) (n:Int) (k:Nat) (h:k<l.length):lP (l.drop k) n=if n≤l[k].2 then some 0 else (lP (l.drop (k+1)) n).map (· + 1):=by
 rw [List.drop_eq_getElem_cons h];rfl
theorem v8 (l:List Xt) (a:Int) (k:Nat) (h:k<l.length):behind (l.drop k) a=if a<l[k].1+l[k].2 then 0 else behind (l.drop (k+1)) a+1:=by
 rw [List.drop_eq_getElem_cons h];rfl
theorem lb:∀(l:List Xt) (a:Int),behind l a≤l.length
 | [],_=>Nat.le_refl _
 | x::l,a=>by
  unfold behind
  split
  ·omega
  ·have:=lb l a;simp;omega
theorem CX {acc:List Xt} {x:Xt} (h:∀y∈acc,je y) (hx:je x):∀y∈mc acc x,je y:=by
 intro y hy
 unfold mc at hy
 split at hy
 ·rename_i z hz
  have hz':=h z (List.mem_of_getLast? hz)
  split at hy
  ·rcases zX.1 hy with hy | hy
   ·exact h y (List.dropLast_subset _ hy)
   ·rcases zF.1 hy with rfl
    unfold je at *
    simp only
    omega
  ·rcases zX.1 hy with hy | hy
   ·exact h y hy
   ·rcases zF.1 hy with rfl;exact hx
 ·rcases zF.1 hy with rfl;exact hx
theorem Av (acc:List Xt) (x:Xt):(mc acc x).length≤acc.length+1:=by
 unfold mc
 split
 ·split
  ·simp
  ·simp
 ·simp
theorem vq (l:List Xt) (k:Nat) (h:k<l.length):jr [] (l.take (k+1))=mc (jr [] (l.take k)) l[k]:=by
 unfold jr
 rw [List.take_add_one,zD h,List.foldl_append]
 rfl
theorem o6:∀(l acc:List Xt),(∀y∈acc,je y)→(∀y∈l,je y)→∀y∈jr acc l,je y
 | [],acc,h,_=>h
 | x::l,acc,h,hl=>o6 l _ (CX h (hl x (zV ..))) (fun y hy=>hl y (zT _ hy))
theorem ny:∀(l acc:List Xt),(jr acc l).length≤acc.length+l.length
 | [],acc=>Nat.le_refl _
 | x::l,acc=>by
  have:=ny l (mc acc x)
  have:=Av acc x
  show (jr (mc acc x) l).length≤_
  simp;omega
end Go.oQ
namespace Go.Proofs.YtfffmmahegdfiaaGreat
open Go.Bm Go.oQ
theorem HS {α:Type} {x y r:Option α} (k:y=r) (h:x=y:=by (first | with_reducible exact (gH _ _) | with_reducible exact cy | with_reducible exact dD | with_reducible exact dE | with_reducible exact (I5 (by assumption)) | with_reducible exact (I4 (by assumption)) | with_reducible exact (Zm (by assumption)) | with_reducible exact (Zn (by assumption)) | with_reducible exact df | with_reducible exact cQ | with_reducible exact gM | with_reducible exact gI | with_reducible exact gJ | with_reducible exact gK | with_reducible exact gN | with_reducible exact gL | with_reducible exact dG | with_reducible exact LF | (with_reducible apply xE;with_reducible (first | exact aM _ _ _ | assumption | exact cg (by assumption) | exact cg (cg (by assumption)) | exact cg (cg (cg (by assumption))) | exact cg (cg (cg (cg (by assumption)))) | exact cg (cg (cg (cg (cg (by assumption))))))) | (with_reducible refine dH ?qh;case qh=>first | omega | (simp (disch:=omega) only [aS,bM,de,fT,gD,cM,d_,fM,aF,jm,cJ,aL,ax,zE,List.length_nil,zO,zR,zH,np,nF,ll,wX,iR,zM]<;>omega)) | (with_reducible refine dm ?qh;case qh=>first | omega | (simp (disch:=omega) only [aS,bM,de,fT,gD,cM,d_,fM,aF,jm,cJ,aL,ax,zE,List.length_nil,zO,zR,zH,np,nF,ll,wX,iR,zM]<;>omega)) | (with_reducible refine dI ?qh;case qh=>first | omega | (simp (disch:=omega) only [aS,bM,de,fT,gD,cM,d_,fM,aF,jm,cJ,aL,ax,zE,List.length_nil,zO,zR,zH,np,nF,ll,wX,iR,zM]<;>omega)) | (with_reducible refine dJ ?qh;case qh=>first | omega | (simp (disch:=omega) only [aS,bM,de,fT,gD,cM,d_,fM,aF,jm,cJ,aL,ax,zE,List.length_nil,zO,zR,zH,np,nF,ll,wX,iR,zM]<;>omega)) | (with_reducible refine bo ?qh;case qh=>first | omega | (simp (disch:=omega) only [aS,bM,de,fT,gD,cM,d_,fM,aF,jm,cJ,aL,ax,zE,List.length_nil,zO,zR,zH,np,nF,ll,wX,iR,zM]<;>omega)) | (with_reducible refine bp ?qh;case qh=>first | omega | (simp (disch:=omega) only [aS,bM,de,fT,gD,cM,d_,fM,aF,jm,cJ,aL,ax,zE,List.length_nil,zO,zR,zH,np,nF,ll,wX,iR,zM]<;>omega)))):x=r:=h.trans k
def m0 (r2:T3) (r4:T4) (gr:Nat) (fr en:Int) (l:List Xt):Prop:=∃fo:Option Nat,r2[gr]?=some (fr,(en,fo))∧((fo=none∧l=[])∨∃j,fo=some j∧aY r4 j=some l)
theorem oT {α:Type} {l:List α} {i:Nat} {y x:α} (h:l[i]?=some y):(aU l i x)[i]?=some x:=by
 unfold aU
 rw [List.getElem?_set,if_pos rfl,if_pos (zB.1 h).1]
theorem nH (d1:T4) (n:Int) (l:List Xt) (j:Nat) (v2) (hj:aY d1 j=some l) (hl:l.length≤10000) :
  loop (g.bX n d1 l j v2) ((0,()),((),((),((),()))))=v2 (((match lP l n with | some i=>(i:Int) | none=>-1),()),((),((),((),())))):=by
 refine (lx (fun k=>((((k:Nat):Int),()),((),((),((),()))))) (fun k=>v2 (((match lP (l.drop k) n with | some i=>((k+i:Nat):Int) | none=>-1),()),((),((),((),()))))) l.length (by unfold lQ;omega) (fun K=>?_) (fun k hk=>?_)).trans ?_
 ·simp (disch:=omega) only [g.bX,↓gM,↓gI,↓gJ,↓gK,↓gN,↓gL,zE,dH,dm,dI,dJ,bo,bp,dG,df,cQ,cy,dD,dE,↓gH,aS,bM,de,fT,gD,cM,d_,fM,aF,jm,cJ,aL,ax]
  rw [List.drop_of_length_le (by omega)]
  rfl
 ·rw [xD l n k hk]
  have e:nth (0,0) l k=l[k]:=fE hk
  by_cases he:n≤l[k].2
  ·refine .inl (fun K=>?_)
   simp (disch:=omega) only [g.bX,↓gM,↓gI,↓gJ,↓gK,↓gN,↓gL,zE,dH,dm,dI,dJ,bo,bp,dG,df,cQ,cy,dD,dE,↓gH,aS,bM,de,fT,gD,cM,d_,fM,aF,jm,cJ,aL,ax,hj,e]
   rw [if_pos he];rfl
  ·refine .inr ⟨?_,fun K=>?_⟩
   ·rw [if_neg he]
    cases lP (l.drop (k+1)) n with
    | none=>rfl
    | some i=>simp only [Option.map_some];congr 3;omega
   ·simp (disch:=omega) only [g.bX,↓gM,↓gI,↓gJ,↓gK,↓gN,↓gL,zE,dH,dm,dI,dJ,bo,bp,dG,df,cQ,cy,dD,dE,↓gH,aS,bM,de,fT,gD,cM,d_,fM,aF,jm,cJ,aL,ax,hj,e]
    rfl
 ·simp
theorem xL {r2:T3} {r4:T4} {gr:Nat} {fr en:Int} {l:List Xt} (h:m0 r2 r4 gr fr en l) {n:Int} (hn:1≤n∧n≤65536∧n%8=0) (hl:l.length≤10000) (hb:lP l n=none) :
  g.bR gr n r2 r4=some ((0,(false,())),(r2,(r4,()))):=by
 obtain ⟨fo,h2,h4⟩:=h
 have e2:∀d,nth d r2 gr=(fr,(en,fo)):=fun d=>bF h2
 have hr:dq n 8=0:=by rw [cM (by omega)];exact hn.2.2
 unfold g.bR
 rcases h4 with ⟨rfl,rfl⟩ | ⟨j,rfl,hj⟩
 ·rw [e2,hr]
  repeat refine HS ?_
  rw [Jb]
  unfold g.eh
  repeat refine HS ?_
  rfl
 ·rw [e2,hr]
  repeat refine HS ?_
  refine Eq.trans (nH r4 n l j _ hj hl) ?_
  rw [hb]
  repeat refine HS ?_
  rfl
theorem xK {r2:T3} {r4:T4} {gr:Nat} {fr en:Int} {l:List Xt} (h:m0 r2 r4 gr fr en l) {n:Int} (hn:1≤n∧n≤65536∧n%8=0) (hx:∀x∈l,je x) (hl:l.length≤10000) {i:Nat} (hb:lP l n=some i) :
  ∃pO pN,g.bR gr n r2 r4=some (((l.getD i (0,0)).1,(true,())),(pO,(pN,())))∧m0 pO pN gr fr en (if (l.getD i (0,0)).2=n then l.eraseIdx i else l.set i ((l.getD i (0,0)).1+n,(l.getD i (0,0)).2-n)):=by
 obtain ⟨fo,h2,h4⟩:=h
 have e2:∀d,nth d r2 gr=(fr,(en,fo)):=fun d=>bF h2
 have hr:dq n 8=0:=by rw [cM (by omega)];exact hn.2.2
 obtain ⟨hi,aek⟩:=rn hb
 have QE:je (l.getD i (0,0)):=by rw [zA,zD hi];exact hx _ (List.getElem_mem hi)
 generalize hg:l.getD i (0,0)=x at *
 have e0:nth (0,0) l i=x:=hg
 obtain ⟨k1,k2,k3⟩:=QE
 rcases h4 with ⟨rfl,rfl⟩ | ⟨j,rfl,hj⟩
 ·cases hi
 ·unfold g.bR
  rw [e2,hr]
  have nni:nN (i:Int)=i:=rfl
  have eU:aj (0,0) (aj (0,0) l i fun B8=>(af IntKind.i64 (nth (0,0) l i).1 n,B8.2)) i (fun Fv=>(Fv.1,aD IntKind.i64 (nth (0,0) l i).2 n))=l.set i (x.1+n,x.2-n):=by
   unfold aj
   rw [vj hi,e0,aS (by omega),bM (by omega)]
   simp only [aU,List.set_set]
  have e1:nth (0,0) (l.set i (x.1+n,x.2-n)) i=(x.1+n,x.2-n):=vj hi
  have sl:(l.set i (x.1+n,x.2-n)).length=l.length:=zM
  by_cases hz:x.2=n
  ·refine ⟨?r2,?r4,?eq,?rel⟩
   case eq=>
    repeat refine HS ?_
    refine Eq.trans (nH r4 n l j _ hj hl) ?_
    rw [hb]
    simp only [nni,e0]
    repeat refine HS ?_
    rw [eU]
    rw [e1,bo (show (x.1+n,x.2-n).2=0 by simp only;omega)]
    repeat refine HS ?_
    rw [e0]
   case rel=>
    refine ⟨some _,(oT h2).trans (by rw [e2]),.inr ⟨_,rfl,?_⟩⟩
    have ti:((i:Int)+1).toNat=i+1:=by omega
    simp (disch:=omega) only [aS,bM,de,fT,gD,cM,d_,fM,aF,jm,cJ,aL,ax,zE,List.length_nil,zO,zR,zH,np,nF,ll,wX,iR,zM,sl,ti,Nat.sub_zero,Nat.min_self,Nat.zero_add]
    rw [xU,if_pos (by simp [aU]),if_pos hz]
    rw [DY (by rw [sl];exact hi) (by rw [sl]) rfl rfl,List.eraseIdx_set_eq]
  ·refine ⟨?s2,?s4,?eq2,?rel2⟩
   case eq2=>
    repeat refine HS ?_
    refine Eq.trans (nH r4 n l j _ hj hl) ?_
    rw [hb]
    simp only [nni,e0]
    repeat refine HS ?_
    rw [eU]
    rw [e1,bp (show ¬(x.1+n,x.2-n).2=0 by simp only;omega)]
    repeat refine HS ?_
    rw [e0]
   case rel2=>
    refine ⟨some j,h2,.inr ⟨j,rfl,?_⟩⟩
    rw [if_neg hz]
    exact cg (cg hj)
open Go.Bm Go.oQ
def eJ (a0:Nat) (all:List Xt) (k:(((Int×Unit)×(Unit×(Unit×(Unit×(T3×(T4×Unit))))))→(Option ((Int×Unit)×(T3×(T4×Unit)))))) (s:((Int×Unit)×(Unit×(Unit×(Unit×(T3×(T4×Unit))))))):(Option ((Int×Unit)×(T3×(T4×Unit)))):=(br (a_ s.1.1 (zN (len all))) (gd (bc s.1.1) (gd (bf (nN s.1.1) (len all)) (opt (nth (0,(0,none)) s.2.2.2.2.1 a0).2.2 (jn (fun (k0:((Bool×Unit)×(Unit×(Unit×(Unit×Unit))))→_)=>(k0 ((false,()),((),((),((),())))))) (fun (s1:((Bool×Unit)×(Unit×(Unit×(Unit×Unit)))))=>(br s1.1.1 (opt (nth (0,(0,none)) s.2.2.2.2.1 a0).2.2 none (fun p2=>(bd (aY s.2.2.2.2.2.1 p2) (fun p3=>(gd (bc (-1)) (gd (bf 0 (len p3)) (bd (aY s.2.2.2.2.2.1 p2) (fun p4=>(bd (aY s.2.2.2.2.2.1 p2) (fun p5=>(gd (bc (-1)) (gd (bf 0 (len p5)) (bd (aY s.2.2.2.2.2.1 p2) (fun p6=>(k (((af IntKind.i64 s.1.1 1),()),((),((),((),(s.2.2.2.2.1,((aU s.2.2.2.2.2.1 p2 (some (aj (0,0) p6 0 (fun r7=>(r7.1,(af IntKind.i64 (nth (0,0) p4 0).2 (nth (0,0) all (nN s.1.1)).2)))))),()))))))))))))))))))))) (opt (nth (0,(0,none)) s.2.2.2.2.1 a0).2.2 (gd (bB (len [((nth (0,0) all (nN s.1.1)).1,(nth (0,0) all (nN s.1.1)).2)]) 16777216) (k (((af IntKind.i64 s.1.1 1),()),((),((),((),((aj (0,(0,none)) s.2.2.2.2.1 a0 (fun r8=>(r8.1,(r8.2.1,(some (len s.2.2.2.2.2.1)))))),((cat s.2.2.2.2.2.1 [(some [((nth (0,0) all (nN s.1.1)).1,(nth (0,0) all (nN s.1.1)).2)])]),())))))))) (fun p9=>(bd (aY s.2.2.2.2.2.1 p9) (fun gA=>(gd (bB (aL (len gA) (len [((nth (0,0) all (nN s.1.1)).1,(nth (0,0) all (nN s.1.1)).2)])) 16777216) (gd (bf p9 (len s.2.2.2.2.2.1)) (k (((af IntKind.i64 s.1.1 1),()),((),((),((),((aj (0,(0,none)) s.2.2.2.2.1 a0 (fun m6=>(m6.1,(m6.2.1,(some (len (aU s.2.2.2.2.2.1 p9 none))))))),((cat (aU s.2.2.2.2.2.1 p9 none) [(some (cat gA [((nth (0,0) all (nN s.1.1)).1,(nth (0,0) all (nN s.1.1)).2)]))]),())))))))))))))))) (fun cz=>(bd (aY s.2.2.2.2.2.1 cz) (fun cr=>(jn (fun (rQ:((Bool×Unit)×(Unit×(Unit×(Unit×Unit))))→_)=>(br (ck 0 (aD IntKind.i64 (zN (len cr)) 1)) (opt (nth (0,(0,none)) s.2.2.2.2.1 a0).2.2 none (fun dL=>(bd (aY s.2.2.2.2.2.1 dL) (fun fb=>(gd (bc (aD IntKind.i64 (zN (len cr)) 1)) (gd (bf (nN (aD IntKind.i64 (zN (len cr)) 1)) (len fb)) (bd (aY s.2.2.2.2.2.1 dL) (fun gz=>(opt (nth (0,(0,none)) s.2.2.2.2.1 a0).2.2 none (fun fJ=>(bd (aY s.2.2.2.2.2.1 fJ) (fun kS=>(gd (bc (aD IntKind.i64 (zN (len cr)) 1)) (gd (bf (nN (aD IntKind.i64 (zN (len cr)) 1)) (len kS)) (bd (aY s.2.2.2.2.2.1 fJ) (fun dW=>(rQ (((ae (af IntKind.i64 (nth (0,0) gz (nN (aD IntKind.i64 (zN (len cr)) 1))).1 (nth (0,0) dW (nN (aD IntKind.i64 (zN (len cr)) 1))).2) (nth (0,0) all (nN s.1.1)).1),()),((),((),((),()))))))))))))))))))))) (rQ ((false,()),((),((),((),()))))))) (fun (EH:((Bool×Unit)×(Unit×(Unit×(Unit×Unit)))))=>(br EH.1.1 (opt (nth (0,(0,none)) s.2.2.2.2.1 a0).2.2 none (fun iT=>(bd (aY s.2.2.2.2.2.1 iT) (fun fy=>(gd (bc (aD IntKind.i64 (zN (len cr)) 1)) (gd (bf (nN (aD IntKind.i64 (zN (len cr)) 1)) (len fy)) (bd (aY s.2.2.2.2.2.1 iT) (fun jA=>(bd (aY s.2.2.2.2.2.1 iT) (fun fg=>(gd (bc (aD IntKind.i64 (zN (len cr)) 1)) (gd (bf (nN (aD IntKind.i64 (zN (len cr)) 1)) (len fg)) (bd (aY s.2.2.2.2.2.1 iT) (fun eK=>(k (((af IntKind.i64 s.1.1 1),()),((),((),((),(s.2.2.2.2.1,((aU s.2.2.2.2.2.1 iT (some (aj (0,0) eK (nN (aD IntKind.i64 (zN (len cr)) 1)) (fun b_=>(b_.1,(af IntKind.i64 (nth (0,0) jA (nN (aD IntKind.i64 (zN (len cr)) 1))).2 (nth (0,0) all (nN s.1.1)).2)))))),()))))))))))))))))))))) (opt (nth (0,(0,none)) s.2.2.2.2.1 a0).2.2 (gd (bB (len [((nth (0,0) all (nN s.1.1)).1,(nth (0,0) all (nN s.1.1)).2)]) 16777216) (k (((af IntKind.i64 s.1.1 1),()),((),((),((),((aj (0,(0,none)) s.2.2.2.2.1 a0 (fun m6=>(m6.1,(m6.2.1,(some (len s.2.2.2.2.2.1)))))),((cat s.2.2.2.2.2.1 [(some [((nth (0,0) all (nN s.1.1)).1,(nth (0,0) all (nN s.1.1)).2)])]),())))))))) (fun l6=>(bd (aY s.2.2.2.2.2.1 l6) (fun ju=>(gd (bB (aL (len ju) (len [((nth (0,0) all (nN s.1.1)).1,(nth (0,0) all (nN s.1.1)).2)])) 16777216) (gd (bf l6 (len s.2.2.2.2.2.1)) (k (((af IntKind.i64 s.1.1 1),()),((),((),((),((aj (0,(0,none)) s.2.2.2.2.1 a0 (fun rB=>(rB.1,(rB.2.1,(some (len (aU s.2.2.2.2.2.1 l6 none))))))),((cat (aU s.2.2.2.2.2.1 l6 none) [(some (cat ju [((nth (0,0) all (nN s.1.1)).1,(nth (0,0) all (nN s.1.1)).2)]))]),())))))))))))))))))))))) (some ((0,()),(s.2.2.2.2.1,(s.2.2.2.2.2.1,())))))
theorem yD (a0:Nat) (a1 a2:Int) (v0 v1 v2 v3):g.iD a0 a1 a2 v0 v1 v2 v3=eJ a0 (cat (cat (tk (ax (nN v0.1.1) 0) (dr 0 v1)) [(a1,a2)]) (tk (ax (len v2) (nN v0.1.1)) (dr (nN v0.1.1) v3))):=rfl
theorem yC (a0:Nat) (a1 a2:Int) (v0 v1 v2):g.gq a0 a1 a2 v0 v1 v2=eJ a0 (cat [(a1,a2)] (tk (ax (len v0) (nN v1.1.1)) (dr (nN v1.1.1) v2))):=rfl
theorem GS (a0:Nat) (a1 a2:Int):g.gp a0 a1 a2=eJ a0 (cat [(a1,a2)] []):=rfl
theorem wY (init:List Xt) (y x:Xt):mc (init++[y]) x=if y.1+y.2=x.1 then init++[(y.1,y.2+x.2)] else init++[y]++[x]:=by
 unfold mc;simp
theorem Cz {α:Type} {d y:α} {l:List α} {i:Nat} (h:i=l.length):nth d (l++[y]) i=y:=by subst h;exact vk
theorem Bx {α:Type} {x y:α} {l:List α} {i:Nat} (h:i=l.length):aU (l++[y]) i x=l++[x]:=by subst h;unfold aU;simp
theorem rY {r2:T3} {r4:T4} {gr:Nat} {fr en:Int} {acc all:List Xt} {k:Nat} (h:m0 r2 r4 gr fr en acc) (hk:k<all.length) (hl:all.length≤10001) (ha:acc.length≤k) (hx:je all[k]) (w9:∀y∈acc,je y) :
  ∃pO pN,m0 pO pN gr fr en (mc acc all[k])∧∀K,eJ gr all K (((k:Int),()),((),((),((),(r2,(r4,()))))))=K ((((k+1:Nat):Int),()),((),((),((),(pO,(pN,())))))):=by
 obtain ⟨fo,h2,h4⟩:=h
 have e2:∀d,nth d r2 gr=(fr,(en,fo)):=fun d=>bF h2
 have e:∀d,nth d all (nN (k:Int))=all[k]:=fun d=>fE hk
 have ek:af IntKind.i64 (k:Int) 1=((k+1:Nat):Int):=by rw [aS (by omega)];omega
 rcases h4 with ⟨rfl,rfl⟩ | ⟨j,rfl,hj⟩
 ·refine ⟨?r2,?r4,?rel,fun K=>?eq⟩
  case eq=>
   unfold eJ
   simp only [e2,e,ek]
   repeat refine HS ?_
   rfl
  case rel=>
   refine ⟨some r4.length,oT h2 |>.trans (by rw [e2];rfl),.inr ⟨_,rfl,?_⟩⟩
   exact gE
 ·have WQ:=oW hj
  rcases List.eq_nil_or_concat acc with rfl | ⟨init,y,rfl⟩
  ·refine ⟨?s2,?s4,?rel2,fun K=>?eq2⟩
   case eq2=>
    unfold eJ
    simp only [e2,e,ek]
    repeat refine HS ?_
    rfl
   case rel2=>
    refine ⟨some (len (aU r4 j none)),oT h2 |>.trans (by rw [e2]),.inr ⟨_,rfl,?_⟩⟩
    exact gE
  ·simp only [List.concat_eq_append] at *
   have hle:(init++[y]).length=init.length+1:=by simp
   have il:aD IntKind.i64 (zN (len (init++[y]))) 1=(init.length:Int):=by
    rw [fM,aF,hle,bM (by omega)];omega
   have hy:=w9 y (by simp)
   have ey:∀d,nth d (init++[y]) (nN (init.length:Int))=y:=fun d=>Cz (jm _)
   have ea:af IntKind.i64 y.1 y.2=y.1+y.2:=aS (by unfold je at hy;omega)
   have eb:af IntKind.i64 y.2 all[k].2=y.2+all[k].2:=aS (by unfold je at hy hx;omega)
   rw [wY]
   by_cases hq:y.1+y.2=all[k].1
   ·rw [if_pos hq]
    refine ⟨?u2,?u4,?rel3,fun K=>?eq3⟩
    case eq3=>
     unfold eJ
     simp only [e2,e,ek]
     iterate 12 (try (refine HS ?_))
     simp only [il]
     repeat refine HS ?_
     simp only [ey,ea,eb]
     repeat refine HS ?_
     rfl
    case rel3=>
     refine ⟨some j,h2,.inr ⟨j,rfl,(cg hj).trans ?_⟩⟩
     unfold aj
     rw [ey,Bx (jm _)]
     show some (init++[(y.1,af IntKind.i64 y.2 all[k].2)])=_
     rw [eb]
   ·rw [if_neg hq]
    refine ⟨?v2,?v4,?rel4,fun K=>?eq4⟩
    case eq4=>
     unfold eJ
     simp only [e2,e,ek]
     iterate 12 (try (refine HS ?_))
     simp only [il]
     repeat refine HS ?_
     simp only [ey,ea,eb]
     repeat refine HS ?_
     rfl
    case rel4=>
     refine ⟨some (len (aU r4 j none)),oT h2 |>.trans (by rw [e2]),.inr ⟨_,rfl,?_⟩⟩
     exact gE
theorem vH {gr:Nat} {fr en:Int} {all:List Xt} (hl:all.length≤10001) (hx:∀y∈all,je y):∀(m k:Nat) (r2:T3) (r4:T4),k+m=all.length→m0 r2 r4 gr fr en (jr [] (all.take k)) →
  ∃pO pN,m0 pO pN gr fr en (jr [] all)∧Bp (eJ gr all) (((k:Int),()),((),((),((),(r2,(r4,())))))) (some ((0,()),(pO,(pN,())))) m
 | 0,k,r2,r4,hk,h=>by
  obtain rfl:k=all.length:=by omega
  rw [List.take_length] at h
  refine ⟨r2,r4,h,Bp.stop 0 fun K=>?_⟩
  unfold eJ
  repeat refine HS ?_
  rfl
 | m+1,k,r2,r4,hk,h=>by
  have Bj:k<all.length:=by omega
  have ho:∀y∈jr [] (all.take k),je y:=o6 _ _ (by simp) (fun y hy=>hx y (List.mem_of_mem_take hy))
  have hn:(jr [] (all.take k)).length≤k:=by have:=ny (all.take k) [];simp at this;omega
  obtain ⟨pO,pN,h',e⟩:=rY h Bj hl hn (hx _ (List.getElem_mem Bj)) ho
  rw [←vq all k Bj] at h'
  obtain ⟨VN,VM,h'',r⟩:=vH hl hx m (k+1) pO pN (by omega) h'
  exact ⟨VN,VM,h'',Bp.step r e⟩
theorem xi {gr:Nat} {fr en:Int} {all:List Xt} {r2:T3} {r4:T4} (h:m0 r2 r4 gr fr en []) (hl:all.length≤10001) (hx:∀y∈all,je y) :
  ∃pO pN,m0 pO pN gr fr en (jr [] all)∧loop (eJ gr all) ((0,()),((),((),((),(r2,(r4,()))))))=some ((0,()),(pO,(pN,()))):=by
 obtain ⟨pO,pN,h',r⟩:=vH hl hx all.length 0 r2 r4 (by omega) h
 exact ⟨pO,pN,h',r.loop (by unfold lQ;omega)⟩
theorem sE (a1:Int) (d1:T4) (l:List Xt) (j:Nat) (v2) (hj:aY d1 j=some l) (hl:l.length≤10000) (hx:∀x∈l,je x) :
  loop (g.dj a1 d1 l j v2) ((0,()),((),((),((),()))))=v2 (((if behind l a1<l.length then (behind l a1:Int) else -1),()),((),((),((),())))):=by
 refine (lx (fun k=>((((k:Nat):Int),()),((),((),((),()))))) (fun k=>v2 (((if k+behind (l.drop k) a1<l.length then ((k+behind (l.drop k) a1:Nat):Int) else -1),()),((),((),((),()))))) l.length (by unfold lQ;omega) (fun K=>?_) (fun k hk=>?_)).trans ?_
 ·simp (disch:=omega) only [g.dj,↓gM,↓gI,↓gJ,↓gK,↓gN,↓gL,zE,dH,dm,dI,dJ,bo,bp,dG,df,cQ,cy,dD,dE,↓gH,aS,bM,de,fT,gD,cM,d_,fM,aF,jm,cJ,aL,ax]
  rw [if_neg (by omega)]
 ·rw [v8 l a1 k hk]
  have e:nth (0,0) l k=l[k]:=fE hk
  have nK:=hx _ (List.getElem_mem hk)
  unfold je at nK
  by_cases he:a1<l[k].1+l[k].2
  ·refine .inl (fun K=>?_)
   simp (disch:=omega) only [g.dj,↓gM,↓gI,↓gJ,↓gK,↓gN,↓gL,zE,dH,dm,dI,dJ,bo,bp,dG,df,cQ,cy,dD,dE,↓gH,aS,bM,de,fT,gD,cM,d_,fM,aF,jm,cJ,aL,ax,hj,e]
   rw [if_pos he,if_pos (by omega)];rfl
  ·refine .inr ⟨?_,fun K=>?_⟩
   ·rw [if_neg he]
    have e3:k+(behind (l.drop (k+1)) a1+1)=k+1+behind (l.drop (k+1)) a1:=by omega
    rw [e3]
   ·simp (disch:=omega) only [g.dj,↓gM,↓gI,↓gJ,↓gK,↓gN,↓gL,zE,dH,dm,dI,dJ,bo,bp,dG,df,cQ,cy,dD,dE,↓gH,aS,bM,de,fT,gD,cM,d_,fM,aF,jm,cJ,aL,ax,hj,e]
    rfl
 ·simp
theorem m0.nil {r2:T3} {r4:T4} {gr:Nat} {fr en:Int} {l:List Xt} (h:m0 r2 r4 gr fr en l):m0 (aj (0,(0,none)) r2 gr (fun r=>(r.1,(r.2.1,none)))) r4 gr fr en []:=by
 obtain ⟨fo,h2,_⟩:=h
 have e2:∀d,nth d r2 gr=(fr,(en,fo)):=fun d=>bF h2
 exact ⟨none,oT h2 |>.trans (by rw [e2]),.inl ⟨rfl,rfl⟩⟩
theorem L0 {r2:T3} {r4:T4} {gr:Nat} {fr en:Int} {l l':List Xt} {a n:Int} (h:m0 r2 r4 gr fr en l) (hf:0≤fr∧0≤en∧en≤131072) (ha:0≤a∧a≤1048576) (hn:0≤n∧n≤1048576) (hx:∀x∈l,je x) (hl:l.length≤10000) (hg:Dz fr en l a n=some l') :
  ∃pO pN,g.cN gr a n r2 r4=some ((0,()),(pO,(pN,())))∧m0 pO pN gr fr en l':=by
 have rT:=h.nil
 obtain ⟨fo,h2,h4⟩:=h
 have e2:∀d,nth d r2 gr=(fr,(en,fo)):=fun d=>bF h2
 unfold Dz at hg
 split at hg
 ·cases hg
 rename_i hc
 split at hg
 ·cases hg
 rename_i hd
 cases hg
 have Mg:1≤n:=by omega
 have W6:n%8=0:=by omega
 have hc3:a%8=0:=by omega
 have Q2:fr≤a∧a≤en-1:=by omega
 have hc5:n≤en-a:=by omega
 have hw:within a fr (aD IntKind.i64 en 1)=true:=by
  rw [bM (by omega)];simp [within,Q2.1,Q2.2]
 have iH:∀y∈l.take (behind l a)++[(a,n)]++l.drop (behind l a),je y:=by
  intro y hy
  simp only [zX,zF] at hy
  rcases hy with (hy | rfl) | hy
  ·exact hx _ (List.mem_of_mem_take hy)
  ·unfold je;simp only;omega
  ·exact hx _ (List.mem_of_mem_drop hy)
 have hlen:(l.take (behind l a)++[(a,n)]++l.drop (behind l a)).length≤10001:=by
  have:=lb l a
  simp;omega
 obtain ⟨pO,pN,hr,vD⟩:=xi rT hlen iH
 refine ⟨pO,pN,?_,hr⟩
 unfold g.cN
 rcases h4 with ⟨rfl,rfl⟩ | ⟨j,rfl,hj⟩
 ·simp only [e2]
  repeat refine HS ?_
  try rw [hw]
  repeat refine HS ?_
  rw [Jb]
  unfold g.iC
  repeat refine HS ?_
  rw [GS]
  exact vD
 ·have hb:=lb l a
  simp only [e2]
  repeat refine HS ?_
  try rw [hw]
  repeat refine HS ?_
  refine Eq.trans (sE a r4 l j _ hj hl hx) ?_
  generalize hi:behind l a=i at *
  have a0:cat (cat (tk (ax (nN (i:Int)) 0) (dr 0 l)) [(a,n)]) (tk (ax (len l) (nN (i:Int))) (dr (nN (i:Int)) l))=l.take i++[(a,n)]++l.drop i:=by
   unfold cat tk dr ax len nN
   rw [zE,Nat.sub_zero,List.drop_zero,za (l:=l.drop i) (by simp)]
  have a2:i=0→cat [(a,n)] (tk (ax (len l) (nN (i:Int))) (dr (nN (i:Int)) l))=l.take i++[(a,n)]++l.drop i:=by
   rintro rfl
   unfold cat tk dr ax len nN
   simp
  have k0:(fun r:Int×(Int×Option Nat)=>(r.1,(r.2.1,(none:Option Nat))))=(fun r=>(r.1,(r.2.1,none))):=rfl
  have hs:af IntKind.i64 a n=a+n:=aS (by omega)
  by_cases eg:i<l.length
  ·rw [if_pos eg]
   have e:∀d,nth d l (nN (i:Int))=l[i]:=fun d=>fE eg
   have mY:¬l[i].1<a+n:=by
    intro hh
    refine hd ⟨eg,?_⟩
    rw [zA,zD eg]
    exact hh
   by_cases h0:i=0
   ·repeat refine HS ?_
    rw [e,hs]
    repeat refine HS ?_
    rw [yC]
    exact (congrArg (fun al=>loop (eJ gr al) _) (a2 h0)).trans vD
   ·repeat refine HS ?_
    rw [e,hs]
    repeat refine HS ?_
    rw [yD]
    exact (congrArg (fun al=>loop (eJ gr al) _) a0).trans vD
  ·rw [if_neg eg]
   obtain rfl:i=l.length:=by omega
   by_cases h0:l.length=0
   ·repeat refine HS ?_
    rw [yC]
    exact (congrArg (fun al=>loop (eJ gr al) _) (a2 h0)).trans vD
   ·repeat refine HS ?_
    rw [yD]
    exact (congrArg (fun al=>loop (eJ gr al) _) a0).trans vD
open Go.Bm Go.oQ
def GI (n:Nat) (d3:T3) (d4:T4) (gr:Nat):Prop:=∃fr en l,m0 d3 d4 gr fr en l∧(0≤fr∧0≤en∧en≤131072)∧(∀x∈l,je x)∧l.length≤n+1
theorem GI.up {n:Nat} {d3:T3} {d4:T4} {gr:Nat} (h:GI n d3 d4 gr):GI (n+1) d3 d4 gr:=by
 obtain ⟨fr,en,l,h1,h2,h3,h4⟩:=h
 exact ⟨fr,en,l,h1,h2,h3,by omega⟩
theorem yo {n:Int} (h:0≤n):dq n 8=n%8:=cM h
theorem Hy {n:Nat} {d3:T3} {d4:T4} {gr:Nat} (h:GI n d3 d4 gr) (hn:n≤9000) (a s:Int) (ha : -9223372036854775808≤a∧a≤9223372036854775807):Ok (g.cN gr a s d3 d4) (fun r=>GI (n+1) r.2.1 r.2.2.1 gr):=by
 have same:=h.up
 obtain ⟨fr,en,l,h1,h2,h3,h4⟩:=h
 cases hg:Dz fr en l a s with
 | some l'=>
  have Me:=hg
  unfold Dz at hg
  split at hg
  ·cases hg
  rename_i hc
  split at hg
  ·cases hg
  cases hg
  obtain ⟨pO,pN,he,hr⟩:=L0 h1 h2 (by omega) (by omega) h3 (by omega) Me
  refine ⟨_,he,fr,en,_,hr,h2,o6 _ _ (fun y hy=>nomatch hy) ?_,?_⟩
  ·intro y hy
   simp only [zX,zF] at hy
   rcases hy with (hy | rfl) | hy
   ·exact h3 _ (List.mem_of_mem_take hy)
   ·unfold je;simp only;omega
   ·exact h3 _ (List.mem_of_mem_drop hy)
  ·have:=ny (l.take (behind l a)++[(a,s)]++l.drop (behind l a)) []
   have:=lb l a
   simp only [zY,List.length_take,List.length_drop,zO,List.length_nil] at *
   omega
 | none=>
  unfold Dz at hg
  split at hg
  ·rename_i hc
   obtain ⟨fo,k1,k2⟩:=h1
   have e2:∀d,nth d d3 gr=(fr,(en,fo)):=fun d=>bF k1
   unfold g.cN
   simp only [e2]
   refine .jn (.br (fun _=>.some same) fun b1=>.br (fun _=>.some same) fun b2=>.br (fun _=>.some same) fun b3=>.gC (aM _ _ _) (.br (fun _=>.some same) fun b4=>.br (fun _=>.some same) fun b5=>?_))
   exfalso
   have b1:=iV.1 b1
   have b2:=cU.1 (hO.1 b2)
   have b3:=cU.1 (hO.1 b3)
   have b4:=fp.1 (hO.1 b4)
   have b5:=iV.1 b5
   rw [bM (by omega)] at b4 b5
   rw [yo (by omega)] at b2 b3
   omega
  ·rename_i hc
   split at hg
   ·rename_i hd
    have Mg:1≤s:=by omega
    have W6:s%8=0:=by omega
    have hc3:a%8=0:=by omega
    have Q2:fr≤a∧a≤en-1:=by omega
    have hc5:s≤en-a:=by omega
    have hw:within a fr (aD IntKind.i64 en 1)=true:=by
     rw [bM (by omega)];simp [within,Q2.1,Q2.2]
    have KI:dq s 8=0:=by rw [yo (by omega)];exact W6
    have Wt:dq a 8=0:=by rw [yo (by omega)];exact hc3
    obtain ⟨fo,k1,k2⟩:=h1
    have e2:∀d,nth d d3 gr=(fr,(en,fo)):=fun d=>bF k1
    refine ⟨((1,()),(d3,(d4,()))),?_,same⟩
    rcases k2 with ⟨rfl,rfl⟩ | ⟨j,rfl,hj⟩
    ·exact absurd hd.1 (by simp)
    ·unfold g.cN
     have hs:af IntKind.i64 a s=a+s:=aS (by omega)
     simp only [e2,KI,Wt]
     repeat refine HS ?_
     try rw [hw]
     repeat refine HS ?_
     refine Eq.trans (sE a d4 l j _ hj (by omega) h3) ?_
     obtain ⟨d1,d2⟩:=hd
     have hb:=lb l a
     generalize hi:behind l a=i at *
     rw [if_pos d1]
     have e:∀d,nth d l (nN (i:Int))=l[i]:=fun d=>fE d1
     rw [zA,zD d1] at d2
     have d2:l[i].1<a+s:=d2
     repeat refine HS ?_
     rw [e,hs]
     repeat refine HS ?_
     rfl
   ·cases hg
theorem EE {n:Nat} {d3:T3} {d4:T4} {gr:Nat} (h:GI n d3 d4 gr) (hn:n≤9000) {s:Int} (hs:1≤s∧s≤65536∧s%8=0):Ok (g.bR gr s d3 d4) (fun r=>GI (n+1) r.2.1 r.2.2.1 gr):=by
 have same:=h.up
 obtain ⟨fr,en,l,h1,h2,h3,h4⟩:=h
 cases hb:lP l s with
 | none=>exact ⟨_,xL h1 hs (by omega) hb,same⟩
 | some i=>
  obtain ⟨pO,pN,he,hr⟩:=xK h1 hs h3 (by omega) hb
  refine ⟨_,he,fr,en,_,hr,h2,?_,?_⟩
  ·obtain ⟨k1,k2⟩:=rn hb
   intro x hx
   split at hx
   ·exact h3 _ (List.mem_of_mem_eraseIdx hx)
   ·rcases List.mem_or_eq_of_mem_set hx with hx | rfl
    ·exact h3 _ hx
    ·have:=h3 _ (List.getElem_mem k1)
     rw [zA,zD k1] at k2 ⊢
     unfold je at this ⊢
     simp only [Option.getD_some] at *
     omega
  ·split
   ·have:=List.length_eraseIdx_le l i;omega
   ·rw [zM];omega
abbrev LV:=((U1×(Int×Unit))×(T2×(T3×(T4×Unit))))
def StF (n:Nat) (r:U1) (c0:T1) (a j m gr:Nat) (x:LV):Prop:=SP n r x.1.1∧AR c0 x.2.1 a j m∧GI (n+1) x.2.2.1 x.2.2.2.1 gr
theorem Nw (x:Int) : -9223372036854775808≤dt .i64 x∧dt .i64 x≤9223372036854775807:=by
 unfold dt;rw [wrap_i64];omega
theorem xx {n:Nat} {c0:T1} {d0:T2} {d3:T3} {d4:T4} {a j m gr:Nat} (hA:AR c0 d0 a j m) (hG:GI n d3 d4 gr) (hn:n≤9000) (p:mE) (s:Int):Ok (g.g7 (some a,(p,s)) gr c0 d0 d3 d4) (fun r=>AR c0 r.2.1 a j m∧GI (n+1) r.2.2.1 r.2.2.2.1 gr):=by
 unfold g.g7
 exact .gG rfl (.bd (cu hA _ _) fun q _=>.br (fun _=>.some ⟨hA,hG.up⟩) fun _=>.br (fun _=>.bd (dA hA _ _ _) fun q _=>.bd (dA hA _ _ _) fun q _=>.bd (Hy hG hn _ _ (Nw _)) fun q hq=>.bd (dK hA _ _ _) fun w hw=>.bd (bL hw _ _ _ _) fun w hw=>.bd (bL hw _ _ _ _) fun w hw=>.some ⟨hw,hq⟩) fun _=>.some ⟨hA,hG.up⟩)
theorem DD {n:Nat} {r:U1} (h:ru n r) (hn:n≤9000) (Uq:Rn.pc r=1) (hc:Rn.op r=2→1≤r.1.2.2.2.2.1∧r.1.2.2.2.2.1≤65536) {c0:T1} {d0:T2} {d3:T3} {d4:T4} {a j m gr:Nat} (hA:AR c0 d0 a j m) (hG:GI n d3 d4 gr) (p:mE) (hp:p.1≤100):Ok (g.iI p a gr r c0 d0 d3 d4) (StF n r c0 a j m gr):=by
 unfold g.iI
 obtain ⟨h1,h2,h3,h4,h5,h6,h7,h8⟩:=h
 have hl:(Rn.list r).length≤n+1:=by omega
 have hs:(Rn.said r).length≤n+1:=by omega
 have L_:Rn.op r=2∨Rn.op r=3:=by
  unfold dn at h8;rw [Uq] at h8;omega
 have hd:∀{x y:Option LV} {P:LV→Prop},Ok y P→Ok (br (Rn.done r) x y) P:=fun {x y P} k=>by rw [h4];exact k
 have tell:∀(c k:Int) (d':T2) (YP:T3) (YO:T4),AR c0 d' a j m→GI (n+1) YP YO gr→Ok (bd (g.bh r c k) (fun p=>some ((p.1.1,(0,())),(d',(YP,(YO,())))))) (StF n r c0 a j m gr):=fun c k d' YP YO rX hG'=>
  .bd (jH n c k rfl rfl hl hs h7) fun q hh=>.some ⟨hh.1,rX,hG'⟩
 refine .jn (hd (.br (fun e=>?_) fun _=>.br (fun _=>.bd (xx hA hG hn _ _) fun q hq=>tell _ _ _ _ _ hq.1 hq.2) fun n3=>?_))
 ·have e:=cY.1 (pF.1 e)
  exact absurd Uq e
 ·have n3:¬Rn.op r=3:=cY.1 n3
  obtain ⟨c1,c2⟩:=hc (by omega)
  refine .loop (fun m' s=>AR c0 s.2.2.2.2.1 a j m∧s.2.2.2.2.2.1=d3∧s.2.2.2.2.2.2.1=d4∧∃k:Nat,s.1.1=(k:Int)∧k+m'=100) (fun m' s gg hI ih=>?_) (N:=100) (by unfold lQ;omega) ⟨hA,rfl,rfl,0,rfl,rfl⟩
  obtain ⟨i1,i2,i3,k,i4,i5⟩:=hI
  unfold g.iP
  refine .br (fun hb=>?_) fun _=>tell _ _ _ _ _ i1 (by rw [i2,i3];exact hG.up)
  have hb:=dX.1 hb
  refine .bd (cu i1 _ _) fun q _=>.br (fun _=>ih (m' - 1) _ (by omega) ⟨i1,i2,i3,k+1,?_,by omega⟩) fun _=>?_
  ·show af .i64 s.1.1 1=_;rw [i4,aS (by omega)];rfl
  ·refine .gC (vi (by omega)) (.bd (EE (n:=n) (by rw [i2,i3];exact hG) hn ?_) fun q hq=>.br (fun _=>tell _ _ _ _ _ i1 hq) fun _=>.bd (dK i1 _ _ _) fun w hw=>.bd (bL hw _ _ _ _) fun w hw=>.bd (bL hw _ _ _ _) fun w hw=>.bd (bL hw _ _ _ _) fun w hw=>.bd (bL hw _ _ _ _) fun w hw=>tell _ _ _ _ _ hw hq)
   show 1≤HD r.1.2.2.2.2.1∧HD r.1.2.2.2.2.1≤65536∧HD r.1.2.2.2.2.1%8=0
   unfold HD;omega
open Go.Bm Go.oQ
theorem gw {α:Type} (l:List α):zN (len l)=(l.length:Int):=by rw [fM,aF]
theorem vM (l:List Int) (hl:l.length≤10):Ok (g.av l) (fun r=>r.1.1=0→∀i,i<l.length→l.getD i 0=0):=by
 unfold g.av
 refine .loop (fun m s=>∃k:Nat,s.1.1=(k:Int)∧k+m=l.length∧∀i,i<k→l.getD i 0=0) (fun m s gg hI ih=>?_) (N:=l.length) (by unfold lQ;omega) ⟨0,rfl,by omega,fun i hi=>by omega⟩
 obtain ⟨k,h1,h2,h3⟩:=hI
 unfold g.iw
 rw [gw,h1]
 have ek:nN (k:Int)=k:=rfl
 refine .br (fun hb=>?_) fun hb=>.some fun _ i hi=>h3 i (by have:=iV.1 hb;omega)
 have hb:=dX.1 hb
 refine .gd (by rw [bn];omega) (.gd (by rw [bA,aF,ek];omega) (.br (fun e=>.some fun e2=>absurd e2 (cY.1 (pF.1 e))) fun e=>ih (m-1) _ (by omega) ⟨k+1,?_,by omega,fun i hi=>?_⟩))
 ·show af .i64 (k:Int) 1=_;rw [aS (by omega)];rfl
 ·by_cases h:i<k
  ·exact h3 i h
  ·have:i=k:=by omega
   subst this
   exact cU.1 (hO.1 e)
theorem AM (a b:Int):Ok (g.av [a,b]) (fun r=>r.1.1=0→a=0∧b=0):=(vM _ (by show 2≤10;omega)).mono fun r h e=>⟨h e 0 (by show 0<2;omega),h e 1 (by show 1<2;omega)⟩
theorem AL (a b c:Int):Ok (g.av [a,b,c]) (fun r=>r.1.1=0→a=0∧b=0∧c=0):=(vM _ (by show 3≤10;omega)).mono fun r h e=>⟨h e 0 (by show 0<3;omega),h e 1 (by show 1<3;omega),h e 2 (by show 2<3;omega)⟩
theorem vl (l:List Int) (hl:l.length≤10):Ok (g.bP l) (fun r=>r.1.1=true→∀i,i<l.length→l.getD i 0<4):=by
 unfold g.bP
 refine .loop (fun m s=>∃k:Nat,s.1.1=(k:Int)∧k+m=l.length∧∀i,i<k→l.getD i 0<4) (fun m s gg hI ih=>?_) (N:=l.length) (by unfold lQ;omega) ⟨0,rfl,by omega,fun i hi=>by omega⟩
 obtain ⟨k,h1,h2,h3⟩:=hI
 unfold g.iu
 rw [gw,h1]
 have ek:nN (k:Int)=k:=rfl
 refine .br (fun hb=>?_) fun hb=>.some fun _ i hi=>h3 i (by have:=iV.1 hb;omega)
 have hb:=dX.1 hb
 refine .gd (by rw [bn];omega) (.gd (by rw [bA,aF,ek];omega) (.br (fun e=>.some fun e2=>?_) fun e=>ih (m-1) _ (by omega) ⟨k+1,?_,by omega,fun i hi=>?_⟩))
 ·have:ck 0 (k:Int)=false:=pF.1 e2
  have:=dR.1 this
  omega
 ·show af .i64 (k:Int) 1=_;rw [aS (by omega)];rfl
 ·by_cases h:i<k
  ·exact h3 i h
  ·have:i=k:=by omega
   subst this
   have:=dR.1 e
   show nth 0 l i<4
   rw [ek] at this
   omega
theorem Ap (a:Int):Ok (g.bP [a]) (fun r=>r.1.1=true→a<4):=(vl _ (by show 1≤10;omega)).mono fun r h e=>h e 0 (by show 0<1;omega)
theorem Ao (a b:Int):Ok (g.bP [a,b]) (fun r=>r.1.1=true→a<4∧b<4):=(vl _ (by show 2≤10;omega)).mono fun r h e=>⟨h e 0 (by show 0<2;omega),h e 1 (by show 1<2;omega)⟩
theorem wo {l:List (Int×Bool)} (hl:l.length≤100):g.bH l=some ((l,()),()):=by
 unfold g.bH
 rw [vI (show bB (aL 0 (len l)) 16777216 by rw [dh,aF];show 0+_≤_;omega)]
 rfl
theorem Ew {l:List (Int×Bool)} (hl:l.length≤100):Ok (g.ia l) (fun r=>r.1.1.length≤l.length∧(r.1.2.2.1=0→0<l.length)):=by
 unfold g.ia
 rw [gw]
 refine .br (fun hb=>.some ⟨by show 0≤_;omega,fun e=>by cases e⟩) fun hb=>?_
 have hb:=iV.1 hb
 rw [bM (by omega)] at hb ⊢
 have en:nN ((l.length:Int)-1)=l.length-1:=by unfold nN;omega
 have ht:(tk (ax (nN ((l.length:Int)-1)) 0) (dr 0 l)).length≤l.length:=by show (List.take _ (List.drop 0 l)).length≤_;rw [List.length_take,List.drop_zero];omega
 exact .gd (by rw [bn];omega) (.gd (by rw [dh];omega) (.gd (by rw [dh,en,aF];omega) (.gC (wo (by omega)) (.gd (by rw [bn];omega) (.gd (by rw [bA,en,aF];omega) (.some ⟨ht,fun _=>by omega⟩))))))
theorem uu {l:List (Int×Bool)} (hl:l.length≤6) (e:Int×Bool):Ok (g.bT l e) (fun r=>r.1.1.length≤6):=by
 unfold g.bT
 rw [gw]
 refine .br (fun hb=>.some (by show 0≤_;omega)) fun hb=>?_
 have hb:=dR.1 hb
 rw [aS (by omega)]
 have en:nN ((l.length:Int)+1)=l.length+1:=by unfold nN;omega
 have er:(rep (α:=(Int×Bool)) (l.length+1) (0,false)).length=l.length+1:=List.length_replicate
 have ec:(cat l (dr l.length (rep (α:=(Int×Bool)) (l.length+1) (0,false)))).length=l.length+1:=by show (l++List.drop _ _).length=_;rw [zY,List.length_drop,er];omega
 rw [en]
 refine .gd (by rw [bn];omega) (.gd (by rw [dh];omega) (.gd (by rw [bA,aF,er];omega) (.gd (by rw [dh,aF,aF,er];omega) (.gd (by rw [bn];omega) (.gd ?_ (.some ?_))))))
 ·rw [bA];show l.length<(cat l (dr l.length (rep (α:=(Int×Bool)) (l.length+1) (0,false)))).length;omega
 ·show (List.set _ _ _).length≤6
  rw [zM]
  show (cat l (dr l.length (rep (α:=(Int×Bool)) (l.length+1) (0,false)))).length≤6
  omega
theorem HC (l:List (Int×Bool)) (hl:l.length≤100):Ok (g.cA l) (fun _=>True):=by
 unfold g.cA
 rw [gw]
 refine .br (fun _=>.some trivial) fun hb=>?_
 have hb:=cY.1 hb
 rw [bM (by omega)]
 have en:nN ((l.length:Int)-1)=l.length-1:=by unfold nN;omega
 exact .gd (by rw [bn];omega) (.gd (by rw [bA,en,aF];omega) (.some trivial))
theorem Ev {l:List (Int×Bool)} (hl:l.length≤100) (s:Int):Ok (g.bm l s) (fun _=>True):=⟨_,nf _ (by omega),trivial⟩
abbrev Ask:=mE×(List (Int×Bool)×((Int×(Int×(Int×(Int×(Int×(Int×Int))))))×(Int×Int)))
theorem Ok.brN {α:Type} {c:Bool} {x y:Option α} {P:α→Prop} {Q:Prop} (hq:c=true→Q) (h1:c=false→Ok x P) (h2:Q→Ok y P):Ok (br (aw c) x y) P:=by
 cases c with
 | true=>exact h2 (hq rfl)
 | false=>exact h1 rfl
theorem Ok.brP {α:Type} {c:Bool} {x y:Option α} {P:α→Prop} {Q:Prop} (hq:c=true→Q) (h1:Q→Ok x P) (h2:c=false→Ok y P):Ok (br c x y) P:=by
 cases c with
 | true=>exact h1 (hq rfl)
 | false=>exact h2 rfl
set_option maxHeartbeats 4000000 in
theorem zk (a:Ask) (hl:a.2.1.length≤6):Ok (g.bG a) (fun r=>r.1.1=0→(a.2.2.1.1=2→1≤a.2.2.1.2.2.2.2.1∧a.2.2.1.2.2.2.2.1≤8192)∧(a.2.2.1.1=1∨a.2.2.1.1=7∨a.2.2.1.1=8∨a.2.2.1.1=10→a.2.2.1.2.1<4)∧(a.2.2.1.1=5→0<a.2.1.length)):=by
 unfold g.bG
 repeat' (first | (with_reducible refine Ok.bd (AM _ _) (fun _ _=>?_)) | (with_reducible refine Ok.bd (AL _ _ _) (fun _ _=>?_)) | (with_reducible refine Ok.bd (Ap _) (fun _ _=>?_)) | (with_reducible refine Ok.bd (Ao _ _) (fun _ _=>?_)) | (with_reducible refine Ok.gC (aM _ _ _) ?_) | (with_reducible refine Ok.bd (uu (by assumption) _) (fun _ _=>?_)) | (with_reducible refine Ok.bd (Ew (by omega)) (fun _ _=>?_)) | (with_reducible refine Ok.bd (Ev (by omega) _) (fun _ _=>?_)) | (with_reducible refine Ok.bd (cH (by omega) _ _) (fun _ _=>?_)) | (with_reducible refine Ok.bd (cW _ _) (fun _ _=>?_)) | (with_reducible refine Ok.brN (by assumption) (fun _=>?_) (fun _=>?_)) | (with_reducible refine Ok.brP (by assumption) (fun _=>?_) (fun _=>?_)) | (with_reducible refine Ok.br (fun _=>?_) (fun _=>?_)) | (with_reducible refine Ok.l7 (fun _=>True) (fun _ _=>?_) (fun _ _=>?_)) | (with_reducible exact (by assumption:∀s,True→Ok _ _) _ trivial) | (with_reducible refine Ok.some (fun _=>?_)))
 all_goals
  dsimp only at *
  simp only [dX,od,cU,cY,pF,hO,fp] at *
  omega
theorem P9 (a:Ask) (hl:a.2.1.length≤6) (h5:a.2.2.1.1=5→0<a.2.1.length):Ok (g.cw a) (fun r=>dn a.2.2.1.1 r.1.1∧r.1.1≤15):=by
 unfold g.cw
 have p1:∀{o:Int},o=2∨o=3→dn o 1∧(1:Int)≤15:=fun h=>by unfold dn;omega
 refine .l7 (fun s=>s.1.1=true→a.2.2.1.1=2∨a.2.2.1.1=3) (fun s hs=>.br (fun e=>.some (p1 (hs e))) fun _=>.br (fun e=>.some ?_) fun _=>.br (fun e=>?_) fun _=>.l7 (fun s=>s.1.1=true→a.2.2.1.1=7∨a.2.2.1.1=8∨a.2.2.1.1=9) (fun s hs=>.br (fun e=>.some ?_) fun _=>.br (fun e=>.some ?_) fun _=>.br (fun e=>.br (fun _=>.some ?_) fun _=>.some ?_) fun _=>.some ?_) fun k hk=>.br (fun e=>hk _ fun _=>.inl (cU.1 e)) fun _=>.br (fun e=>hk _ fun _=>.inr (.inl (cU.1 e))) fun _=>hk _ fun e=>.inr (.inr (cU.1 e))) fun k hk=>.br (fun e=>hk _ fun _=>.inl (cU.1 e)) fun _=>hk _ fun e=>.inr (cU.1 e)
 ·have:=cU.1 e;dsimp only;unfold dn;omega
 ·have e:=cU.1 e
  have:=h5 e
  rw [gw,bM (by omega)]
  have en:nN ((a.2.1.length:Int)-1)=a.2.1.length-1:=by unfold nN;omega
  refine .gd (by rw [bn];omega) (.gd (by rw [bA,en,aF];omega) (.br (fun _=>.some ?_) fun _=>.some ?_))
  ·dsimp only;unfold dn;omega
  ·dsimp only;unfold dn;omega
 ·have:=hs e;dsimp only;unfold dn;omega
 ·have:=cU.1 e;dsimp only;unfold dn;omega
 ·have:=cU.1 e;dsimp only;unfold dn;omega
 ·have:=cU.1 e;dsimp only;unfold dn;omega
 ·dsimp only;unfold dn;omega
open Go.Bm Go.oQ
abbrev lS:Type:=Int×(Int×(Int×(Int×(Int×(Int×Int)))))
abbrev sL (o:Int):Prop:=o=1∨o=7∨o=8∨o=10
structure kF (n:Nat) (r:U1):Prop where
 run:ru n r
 make:Rn.op r=2→Rn.pc r=1→1≤r.1.2.2.2.2.1∧r.1.2.2.2.2.1≤8192
 eG:sL (Rn.op r)→Rn.pc r≠0∨Rn.code r=0→r.1.2.1<4
theorem TF {p:mE} {rg:Nat} {l:List (Int×Bool)} {c:lS} {d8:T2} {w:List Int} (hw:aY d8 rg=some w) (h4:w.length=4) (hl:l.length≤6) (hc:0≤c.2.2.1∧0≤c.2.2.2.1):Ok (g.fX p (some rg) l c d8) (fun x=>x.1.1.1=c∧∀n≤100000,kF n x.1.1):=by
 have tail:∀h v:Int,Ok (bd (g.cA l) (fun p0=>bd (g.bH l) (fun p1=>bd (g.bG (p,(l,(c,(h,v))))) (fun p2=>br (ae p2.1.1 0) (bd (g.cw (p,(l,(c,(h,v))))) (fun p3=>some (((c,(p3.1.1,(p0.1.1,(h,(v,(p1.1.1,(0,(0,(0,(0,([],(0,([],(0,(false,(false,(false,(p2.1.1,(0,[]))))))))))))))))))),()),()))) (some (((c,(0,(p0.1.1,(h,(v,(p1.1.1,(0,(0,(0,(0,([],(0,([],(0,(false,(false,(false,(p2.1.1,(0,[]))))))))))))))))))),()),())))))) (fun x=>x.1.1.1=c∧∀n≤100000,kF n x.1.1):=by
  intro h v
  refine .bd (HC l (by omega)) fun p0 _=>.gC (wo (by omega)) (.bd (zk _ hl) fun p2 h2=>.br (fun e=>.bd (P9 _ hl fun e5=>(h2 (cU.1 e)).2.2 e5) fun p3 h3=>.some ⟨rfl,fun n hn=>?_⟩) fun e=>.some ⟨rfl,fun n hn=>?_⟩)
  ·obtain ⟨k1,k2,k3⟩:=h2 (cU.1 e)
   obtain ⟨k4,k5⟩:=h3
   exact ⟨⟨by show 0≤n;omega,by show 0≤n;omega,by show l.length≤100;omega,rfl,rfl,fun h=>by have h:p3.1.1=20∨p3.1.1=21:=h;omega,hn,k4⟩,fun h _=>k1 h,fun h _=>k2 h⟩
  ·exact ⟨⟨by show 0≤n;omega,by show 0≤n;omega,by show l.length≤100;omega,rfl,rfl,fun h=>by have h:(0:Int)=20∨(0:Int)=21:=h;omega,hn,.inl rfl⟩,fun h e=>by have e:(0:Int)=1:=e;omega,fun h e'=>by
    rcases e' with e' | e'
    ·exact absurd rfl e'
    ·exact absurd e' (cY.1 e)⟩
 unfold g.fX
 have hv:c.2.2.2.1<4→bf (nN c.2.2.2.1) (len w):=fun h=>by rw [bA,cJ,aF];omega
 have hh:c.2.2.1<4→bf (nN c.2.2.1) (len w):=fun h=>by rw [bA,cJ,aF];omega
 refine .br (fun _=>.br (fun _=>tail _ _) fun b=>.gG rfl (.gC hw (.gd (by rw [bn];exact hc.2) (.gd (hv (by have:=dR.1 b;omega)) (.gC hw (tail _ _)))))) fun b=>.gG rfl (.gC hw (.gd (by rw [bn];exact hc.1) (.gd (hh (by have:=dR.1 b;omega)) (.gC hw (.br (fun _=>tail _ _) fun b=>.gG rfl (.gC hw (.gd (by rw [bn];exact hc.2) (.gd (hv (by have:=dR.1 b;omega)) (.gC hw (tail _ _))))))))))
structure SD (n:Nat) (r r':U1):Prop where
 sp:SP n r r'
 code:Rn.pc r=0→Rn.code r'=Rn.code r
 once:Rn.pc r=0→Rn.done r'=true
theorem Kn {n:Nat} {r:U1} (h:kF n r) (hn:n≤9000) {wi:Nat} {c0:T0} {p:mE} {fo:Option Nat} {d9:T9} {a gr:Nat} {th oo:Option Nat} {st:Int} (hw:c0[wi]?=some (p,(fo,(some a,(some gr,(th,(oo,st))))))) (hf:EC fo d9) (hp:p.1≤100) (c1:T5) (c2:T6) (c3:T7) (c4:T2) {d1:T1} {d2:T2} {d3:T3} {d4:T4} {j m:Nat} (hA:AR d1 d2 a j m) (hG:GI n d3 d4 gr) :
  Ok (g.db wi r c0 c1 c2 c3 c4 d1 d2 d3 d4 d9) (fun x=>SD n r x.1.1∧x.2.1=d1∧AR d1 x.2.2.1 a j m∧GI (n+1) x.2.2.2.1 x.2.2.2.2.1 gr∧x.2.2.2.2.2.1=d9):=by
 unfold g.db
 have e0:∀d,nth d c0 wi=(p,(fo,(some a,(some gr,(th,(oo,st)))))):=fun d=>bF hw
 simp only [e0]
 have h0:=h.run
 refine .br (fun e=>.bd (Et h0 _ _) fun q hq=>.some ⟨⟨hq.1,fun _=>hq.2.2,fun _=>hq.2.1⟩,rfl,hA,hG.up,rfl⟩) fun n0=>?_
 have n0:¬Rn.pc r=0:=cY.1 n0
 refine .br (fun e=>.gG rfl (.gG rfl (.bd (DD h0 hn (cU.1 e) (fun k=>?_) hA hG p hp) fun q hq=>.some ⟨⟨hq.1,fun e=>absurd e n0,fun e=>absurd e n0⟩,rfl,hq.2.1,hq.2.2,rfl⟩))) fun n1=>?_
 ·have:=h.make k (cU.1 e);omega
 have n1:¬Rn.pc r=1:=cY.1 n1
 refine .br (fun e=>.gG rfl (.bd (Fh h0 (cU.1 e) n0 hA p) fun q hq=>.some ⟨⟨hq.1,fun e=>absurd e n0,fun e=>absurd e n0⟩,rfl,hq.2,hG.up,rfl⟩)) fun n7=>.br (fun e=>.gG rfl (.bd (DR h0 (cU.1 e) n0 hA p) fun q hq=>.some ⟨⟨hq.1,fun e=>absurd e n0,fun e=>absurd e n0⟩,rfl,hq.2,hG.up,rfl⟩)) fun n4=>.br (fun e=>.opt (fun e0=>.gG rfl (.bd (vt h0 (cU.1 e) n0 hA p (e0▸hf)) fun q hq=>.some ⟨⟨hq.1,fun e=>absurd e n0,fun e=>absurd e n0⟩,hq.2.1,hq.2.2.1,hG.up,hq.2.2.2⟩)) fun jf e0=>.gG rfl (.bd (vt h0 (cU.1 e) n0 hA p (e0▸hf)) fun q hq=>.some ⟨⟨hq.1,fun e=>absurd e n0,fun e=>absurd e n0⟩,hq.2.1,hq.2.2.1,hG.up,hq.2.2.2⟩)) fun n5=>.gG rfl (.bd (BM h0 ⟨cY.1 n4,cY.1 n5,cY.1 n7⟩ ⟨n0,n1⟩ hA p) fun q hq=>.some ⟨⟨hq.1,fun e=>absurd e n0,fun e=>absurd e n0⟩,rfl,hq.2,hG.up,rfl⟩)
theorem SD.inv {n:Nat} {r r':U1} (h:kF n r) (hn:n≤9000) (s:SD n r r') (hd:Rn.done r'=false):kF (n+1) r':=by
 obtain ⟨s1,s2,s3⟩:=s
 have hp:Rn.pc r≠0:=fun e=>by have:=s3 e;rw [hd] at this;cases this
 have ho:Rn.op r'=Rn.op r:=by show r'.1.1=r.1.1;rw [s1.call]
 refine ⟨⟨s1.list,s1.said,by rw [s1.ch];exact h.run.ch,hd,s1.dg.trans hd,s1.fin hd,by omega,by rw [ho];exact s1.pc hd⟩,fun o e=>?_,fun o e=>?_⟩
 ·rw [s1.call]
  have L_:=s1.pc hd
  have h8:=h.run.pc
  rw [ho] at o
  rw [o] at h8
  refine h.make o ?_
  unfold dn at h8;omega
 ·rw [s1.call]
  rw [ho] at o
  exact h.eG o (.inl hp)
theorem SD.eG {n:Nat} {r r':U1} (h:kF n r) (s:SD n r r') (ho:sL (Rn.op r)) (hc:Rn.code r'=0):r.1.2.1<4:=by
 by_cases e:Rn.pc r=0
 ·exact h.eG ho (.inr ((s.code e).symm.trans hc))
 ·exact h.eG ho (.inl e)
open Go.Bm Go.oQ
abbrev pV:Type:=List lS×(Option Nat×(List (Int×Bool)×(U1×(Bool×Int))))
abbrev pK:Type:=Int×(lS×(Int×(Int×(Int×(Int×(Int×List Int))))))
abbrev Th.calls (t:pV):List lS:=t.1
abbrev Th.ib (t:pV):List (Int×Bool):=t.2.2.1
abbrev Th.run (t:pV):U1:=t.2.2.2.1
abbrev Th.busy (t:pV):Bool:=t.2.2.2.2.1
abbrev Th.at (t:pV):Int:=t.2.2.2.2.2
abbrev Op.to (o:pK):Int:=o.2.2.2.2.1
abbrev Op.dg (o:pK):Int:=o.2.2.2.1
structure WC where
 wi:Nat
 a:Nat
 gr:Nat
 th:Nat
 j:Nat
 m:Nat
 p:mE
 fo:Option Nat
 ts:List Nat
 rs:List Nat
structure WS where
 ops:List pK
 st:Nat
 tl:List pV
 rg:List (List Int)
abbrev Ds:Type:=T0×(T1×(T2×(T3×(T4×(T6×(T7×(T2×(T9×Unit))))))))
structure TI (n k:Nat) (ops:List pK) (t:pV):Prop where
 ib:(Th.ib t).length≤6
 calls:(Th.calls t).length≤64
 args:∀c∈Th.calls t,0≤c.2.1∧0≤c.2.2.1∧0≤c.2.2.2.1
 busy:Th.busy t=true→kF n (Th.run t)∧0≤(Th.run t).1.2.1∧∃q:Nat,Th.at t=(q:Int)∧∃o,ops[q]?=some o∧o.1=(k:Int)∧o.2.1=(Th.run t).1∧Op.to o = -1∧Op.dg o = -1
structure WI (n:Nat) (C:WC) (s:WS) (c5:T5) (D:Ds):Prop where
 world:∃oo,D.1[C.wi]?=some (C.p,(C.fo,(some C.a,(some C.gr,(some C.th,(oo,(s.st:Int)))))))∧((oo=none∧s.ops=[])∨∃jo,oo=some jo∧aY D.2.2.2.2.2.2.1 jo=some s.ops)
 ar:AR D.2.1 D.2.2.1 C.a C.j C.m
 gi:GI n D.2.2.2.1 D.2.2.2.2.1 C.gr
 iZ:EC C.fo D.2.2.2.2.2.2.2.2.1
 scopes:C.p.1≤100
 rows:aY c5 C.th=some (C.ts.map some)
 four:C.ts.length≤4
 lts:s.tl.length=C.ts.length
 lrg:s.rg.length=C.ts.length
 Ol:∀(i k:Nat) x,C.ts[i]?=some x→C.ts[k]?=some x→i=k
 P6:∀(i k:Nat) x,C.rs[i]?=some x→C.rs[k]?=some x→i=k
 said:∀o∈s.ops,o.2.2.2.2.2.2.2.length≤10000
 TO:∀(k:Nat) t,s.tl[k]?=some t→∃id rr w,C.ts[k]?=some id∧D.2.2.2.2.2.1[id]?=some t∧t.2.1=some rr∧C.rs[k]?=some rr∧s.rg[k]?=some w∧aY D.2.2.2.2.2.2.2.1 rr=some w∧w.length=4∧TI n k s.ops t
theorem kF.up {n:Nat} {r:U1} (h:kF n r) (hn:n≤9000):kF (n+1) r:=by
 obtain ⟨⟨h1,h2,h3,h4,h5,h6,h7,h8⟩,h9,Xd⟩:=h
 exact ⟨⟨by omega,by omega,h3,h4,h5,h6,by omega,h8⟩,h9,Xd⟩
theorem WI.put {n n':Nat} {C:WC} {s:WS} {c5:T5} {D:Ds} (H:WI n C s c5 D) (hn:n≤9000) (QM:n'=n∨n'=n+1) {k:Nat} {t t':pV} {id rr:Nat} (hk:s.tl[k]?=some t) (Dl:C.ts[k]?=some id) (C7:C.rs[k]?=some rr) (ht':t'.2.1=some rr)
  {u_:List pK} {zc:Nat} {P7:List (List Int)} {w':List Int} {D':Ds}
  (h1:∃oo,D'.1[C.wi]?=some (C.p,(C.fo,(some C.a,(some C.gr,(some C.th,(oo,(zc:Int)))))))∧((oo=none∧u_=[])∨∃jo,oo=some jo∧aY D'.2.2.2.2.2.2.1 jo=some u_))
  (h2:AR D'.2.1 D'.2.2.1 C.a C.j C.m) (h3:GI n' D'.2.2.2.1 D'.2.2.2.2.1 C.gr) (h4:D'.2.2.2.2.2.1=D.2.2.2.2.2.1.set id t')
  (h5:P7[k]?=some w') (h5':∀i,i≠k→P7[i]?=s.rg[i]?) (hl:P7.length=s.rg.length) (h6:aY D'.2.2.2.2.2.2.2.1 rr=some w') (h6':∀x,x≠rr→aY D'.2.2.2.2.2.2.2.1 x=aY D.2.2.2.2.2.2.2.1 x) (hw:w'.length=4)
  (ho:∀(q:Nat) o,s.ops[q]?=some o→o.1≠(k:Int)→u_[q]?=some o) (hT:TI n' k u_ t') (h9:D'.2.2.2.2.2.2.2.2.1=D.2.2.2.2.2.2.2.2.1) (Wn:∀o∈u_,o.2.2.2.2.2.2.2.length≤10000) :
  WI n' C ⟨u_,zc,s.tl.set k t',P7⟩ c5 D':=by
 have rU:k<s.tl.length:=(zB.1 hk).1
 refine ⟨h1,h2,h3,by rw [h9];exact H.iZ,H.scopes,H.rows,H.four,by rw [zM];exact H.lts,by rw [hl];exact H.lrg,H.Ol,H.P6,Wn,?_⟩
 intro i t0 h0
 dsimp only at h0 ⊢
 by_cases e:i=k
 ·subst e
  rw [List.getElem?_set_self rU] at h0
  cases h0
  obtain ⟨id0,rr0,w0,a1,a2,a3,a4,a5,a6,a7,a8⟩:=H.TO i t hk
  rw [Dl] at a1;cases a1
  have:id<D.2.2.2.2.2.1.length:=(zB.1 a2).1
  exact ⟨id,rr,w',Dl,by rw [h4,List.getElem?_set_self this],ht',C7,h5,h6,hw,hT⟩
 ·rw [List.getElem?_set_ne (fun h=>e h.symm)] at h0
  obtain ⟨id0,rr0,w0,a1,a2,a3,a4,a5,a6,a7,a8⟩:=H.TO i t0 h0
  refine ⟨id0,rr0,w0,a1,?_,a3,a4,(h5' i e).trans a5,?_,a7,?_⟩
  ·rw [h4,List.getElem?_set_ne]
   ·exact a2
   ·intro h;subst h;exact e (H.Ol i k _ a1 Dl)
  ·rw [h6']
   ·exact a6
   ·intro h;subst h;exact e (H.P6 i k _ a4 C7)
  ·refine ⟨a8.ib,a8.calls,a8.args,fun hb=>?_⟩
   obtain ⟨b1,b2,q,b3,o,b4,b5,b6⟩:=a8.busy hb
   refine ⟨?_,b2,q,b3,o,ho q o b4 (by rw [b5];intro h;exact e (by omega)),b5,b6⟩
   rcases QM with rfl | rfl
   ·exact b1
   ·exact b1.up hn
def nE (t:pV):Bool:=!(Th.busy t) && decide ((Th.calls t).length=0)
theorem yL {d6:T6} {id:Nat} {t:pV} (h:d6[id]?=some t) (d8:T2):g.bz id d6 d8=some ((nE t,()),()):=by
 unfold g.bz nE
 rw [bF h]
 cases hb:Th.busy t with
 | true=>
  have hb:t.2.2.2.2.1=true:=hb
  rw [hb];rfl
 | false=>
  have hb:t.2.2.2.2.1=false:=hb
  rw [hb]
  show some ((ae (zN (len t.1)) 0,()),())=_
  rw [gw]
  unfold ae
  show some ((decide ((t.1.length:Int)=0),()),())=some ((decide (t.1.length=0),()),())
  congr 3
  simp
theorem y8 {α:Type} {l:List (Option (List α))} {j:Nat} {r:List α} (h:aY l j=some r):aU l j (some r)=l:=by
 have:=BX.1 h
 obtain ⟨eg,he⟩:=zB.1 this
 unfold aU
 rw [←he,List.set_getElem_self]
theorem xM {α:Type} {d:α} {l:List α} {i:Nat} {x:α} (h:l[i]?=some x) (f:α→α):aj d l i f=l.set i (f x):=by unfold aj aU;rw [bF h]
theorem lj {α:Type} {l:List α} {i:Nat} {x:α} (h:l[i]?=some x) (y:α):(l.set i y)[i]?=some y:=List.getElem?_set_self (zB.1 h).1
theorem G8 {d6:T6} {d8:T2} {id rr:Nat} {cs:List lS} {es:List (Int×Bool)} {r:U1} {b:Bool} {q:Int} {w:List Int} (h:d6[id]?=some (cs,(some rr,(es,(r,(b,q)))))) (hw:aY d8 rr=some w) (h4:w.length=4) (he:es.length≤6) (hr:Rn.code r=0→sL (Rn.op r)→0≤r.1.2.1∧r.1.2.1<4) :
  Ok (g.cB id d6 d8) (fun x=>∃nL w',nL.length≤6∧w'.length=4∧x.2.1=d6.set id (cs,(some rr,(nL,(r,(false,q)))))∧x.2.2.1=aU d8 rr (some w')):=by
 unfold g.cB
 have e1:∀f,aj aG d6 id f=d6.set id (f (cs,(some rr,(es,(r,(b,q)))))):=fun f=>xM h f
 have h2:=lj h (cs,(some rr,(es,(r,(false,q)))))
 have e2:∀d,nth d (d6.set id (cs,(some rr,(es,(r,(false,q)))))) id=(cs,(some rr,(es,(r,(false,q))))):=fun d=>bF h2
 have e3:∀f,aj aG (d6.set id (cs,(some rr,(es,(r,(false,q)))))) id f=d6.set id (f (cs,(some rr,(es,(r,(false,q)))))):=fun f=>by rw [xM h2];rw [List.set_set]
 simp only [e1,e2,e3]
 have same:aU d8 rr (some w)=d8:=y8 hw
 refine .br (fun _=>.some ⟨es,w,he,h4,rfl,same.symm⟩) fun ec=>?_
 have ec:=cU.1 (hO.1 ec)
 refine .br (fun e=>?_) fun n1=>.l7 (fun s=>s.1.1=true→sL (Rn.op r)) (fun s hs=>.br (fun e=>?_) fun _=>.br (fun _=>.bd (uu he _) fun x hx=>.some ⟨_,w,hx,h4,rfl,same.symm⟩) fun _=>.br (fun _=>.bd (uu he _) fun x hx=>.some ⟨_,w,hx,h4,rfl,same.symm⟩) fun _=>.br (fun _=>.bd (Ew (by omega)) fun x hx=>.some ⟨_,w,Nat.le_trans hx.1 he,h4,rfl,same.symm⟩) fun _=>.some ⟨es,w,he,h4,rfl,same.symm⟩) fun k hk=>.br (fun e=>hk _ fun _=>.inr (.inl (cU.1 e))) fun _=>.br (fun e=>hk _ fun _=>.inr (.inr (.inl (cU.1 e)))) fun _=>hk _ fun e=>.inr (.inr (.inr (cU.1 e)))
 ·obtain ⟨r1,r2⟩:=hr ec (.inl (cU.1 e))
  exact .gG rfl (.gC hw (.gd (by rw [bn];exact r1) (.gd (by rw [bA,cJ,aF];omega) (.gC hw (.some ⟨es,_,he,by unfold aU;rw [zM];exact h4,rfl,rfl⟩)))))
 ·obtain ⟨r1,r2⟩:=hr ec (hs e)
  exact .gG rfl (.gC hw (.gd (by rw [bn];exact r1) (.gd (by rw [bA,cJ,aF];omega) (.gC hw (.some ⟨es,_,he,by unfold aU;rw [zM];exact h4,rfl,rfl⟩)))))
open Go.Bm Go.oQ
def m8 (k:Nat) (c:lS) (st:Nat):pK:=((k:Int),(c,((st:Int),(-1,(-1,(0,(0,[])))))))
def wQ (o:pK) (st:Nat) (r:U1):pK:=(o.1,(o.2.1,(o.2.2.1,((st:Int),((st:Int),r.2.2.2.2.2.2.2.2.2.2.2.2.2.2.2.2.2)))))
def jy (t:pV) (r:U1):pV:=(t.1,(t.2.1,(t.2.2.1,(r,t.2.2.2.2))))
def EF (k:Nat) (t:pV) (ops:List pK) (st:Nat) (t1:pV) (fh:List pK):Prop:=
 (Th.busy t=true∧t1=t∧fh=ops)∨(Th.busy t=false∧∃c cs r,t.1=c::cs∧r.1=c∧t1=(cs,(t.2.1,(t.2.2.1,(r,(true,(ops.length:Int))))))∧fh=ops++[m8 k c st])
def JJ (k:Nat) (t:pV) (s s':WS):Prop:=∃t1 fh r',EF k t s.ops s.st t1 fh∧s'.st=s.st+1 ∧
  ((Rn.done r'=false∧s'.ops=fh∧s'.tl=s.tl.set k (jy t1 r')∧s'.rg=s.rg) ∨
   (Rn.done r'=true∧∃nL w' q o,Th.at t1=((q:Nat):Int)∧fh[q]?=some o∧o.1=(k:Int)∧Op.to o = -1∧s'.ops=fh.set q (wQ o s.st r')∧s'.tl=s.tl.set k (t1.1,(t1.2.1,(nL,(r',(false,t1.2.2.2.2.2)))))∧s'.rg=s.rg.set k w'))
def wc (n:Nat) (C:WC) (s:WS) (c5:T5) (D:Ds) (i:Int) (r:(Bool×(Int×Unit))×Ds):Prop:=
 (r.2=D∧((¬(0≤i∧i<s.tl.length)∧r.1=(false,(2,())))∨(∃(k:Nat) (t:pV),i=(k:Int)∧s.tl[k]?=some t∧nE t=true∧r.1=(false,(23,()))))) ∨
 (r.1.2.1=0∧∃(k:Nat) (t:pV) (s':WS),i=(k:Int)∧s.tl[k]?=some t∧nE t=false∧JJ k t s s'∧WI (n+1) C s' c5 r.2∧∃t',s'.tl[k]?=some t'∧r.1.1=nE t')
theorem qo {α:Type} {l:List α} {k:Nat} {t:α} (h:l[k]?=some t):l.set k t=l:=by
 obtain ⟨eg,he⟩:=zB.1 h
 rw [←he,List.set_getElem_self]
set_option maxHeartbeats 2000000 in
theorem Hw {n:Nat} {C:WC} {s:WS} {c5:T5} {D:Ds} (H:WI n C s c5 D) (hn:n≤9000) (pQ:s.st≤n) (mg:s.ops.length≤n) (i:Int) (hi : -9223372036854775808≤i∧i≤9223372036854775807) :
  Ok (g.bS C.wi i c5 D.1 D.2.1 D.2.2.1 D.2.2.2.1 D.2.2.2.2.1 D.2.2.2.2.2.1 D.2.2.2.2.2.2.1 D.2.2.2.2.2.2.2.1 D.2.2.2.2.2.2.2.2.1) (wc n C s c5 D i):=by
 unfold g.bS
 obtain ⟨oo,hw,Wx⟩:=H.world
 have e0:∀d,nth d D.1 C.wi=(C.p,(C.fo,(some C.a,(some C.gr,(some C.th,(oo,(s.st:Int))))))):=fun d=>bF hw
 simp only [e0]
 have C8:=H.rows
 have eg:=H.lts
 have h4:=H.four
 have hlen:zN (len (C.ts.map some))=(C.ts.length:Int):=by rw [gw,zH]
 refine .gG rfl (.gC C8 (.gC (aM _ _ _) (.br (fun hb=>.some (.inl ⟨rfl,.inl ⟨?_,rfl⟩⟩)) fun hb=>?_)))
 ·have hb:=pF.1 hb
  rw [hlen,bM (by omega)] at hb
  intro h
  have:within i 0 ((C.ts.length:Int)-1)=true:=fp.2 (by omega)
  have hb:within i 0 ((C.ts.length:Int)-1)=false:=hb
  rw [this] at hb;cases hb
 have hb:=hO.1 hb
 rw [hlen,bM (by omega)] at hb
 have hb:=fp.1 hb
 obtain ⟨k,rfl⟩:∃k:Nat,i=(k:Int):=⟨i.toNat,by omega⟩
 have hk:k<s.tl.length:=by omega
 obtain ⟨t,ht⟩:∃t,s.tl[k]?=some t:=⟨_,zD hk⟩
 obtain ⟨id,rr,w,a1,a2,a3,a4,a5,a6,a7,a8⟩:=H.TO k t ht
 have Wz:nth none (C.ts.map some) (nN (k:Int))=some id:=by
  show nth none (C.ts.map some) k=some id
  exact bF (by rw [zL,a1];rfl)
 have hkg:bf (nN (k:Int)) (len (C.ts.map some)):=by rw [bA,aF,zH];show k<_;omega
 refine .gG rfl (.gC C8 (.gd (by rw [bn];omega) (.gd hkg (.gC C8 (.gG Wz (.gC (yL a2 _) (.br (fun e=>.some (.inl ⟨rfl,.inr ⟨k,t,rfl,ht,e,rfl⟩⟩)) fun e=>?_)))))))
 have et:∀d,nth d D.2.2.2.2.2.1 id=t:=fun d=>bF a2
 have eu:∀f,aj aG D.2.2.2.2.2.1 id f=D.2.2.2.2.2.1.set id (f t):=fun f=>xM a2 f
 have es:∀(x:pV) d,nth d (D.2.2.2.2.2.1.set id x) id=x:=fun x d=>bF (lj a2 x)
 have eus:∀(x:pV) f,aj aG (D.2.2.2.2.2.1.set id x) id f=D.2.2.2.2.2.1.set id (f x):=fun x f=>by rw [xM (lj a2 x),List.set_set]
 have ew:∀f,aj bD D.1 C.wi f=D.1.set C.wi (f (C.p,(C.fo,(some C.a,(some C.gr,(some C.th,(oo,(s.st:Int)))))))):=fun f=>xM hw f
 simp only [et,eu,es,eus,ew]
 have he:nE t=false:=e
 refine .l7 (fun z=>∃t1 fh,EF k t s.ops s.st t1 fh∧WI n C ⟨fh,s.st,s.tl.set k t1,s.rg⟩ c5 (z.2.2.2.2.1,(D.2.1,(D.2.2.1,(D.2.2.2.1,(D.2.2.2.2.1,(z.2.2.2.2.2.1,(z.2.2.2.2.2.2.1,(D.2.2.2.2.2.2.2.1,(D.2.2.2.2.2.2.2.2.1,())))))))))∧Th.busy t1=true) (fun z hz=>?_) fun kk gZ=>.br (fun hb=>?_) fun hb=>gZ _ ⟨t,s.ops,.inl ⟨hO.1 hb,rfl,rfl⟩,?_,hO.1 hb⟩
 rotate_left
 ·-- a call Zp
  have hb:Th.busy t=false:=pF.1 hb
  have hc:0<t.1.length:=by
   unfold nE at he
   rw [hb] at he
   have:¬(t.1.length=0):=by simpa using he
   omega
  obtain ⟨c,cs,Jq⟩:∃c cs,t.1=c::cs:=by
   cases QH:t.1 with
   | nil=>rw [QH] at hc;exact absurd hc (by simp)
   | cons c cs=>exact ⟨c,cs,rfl⟩
  have Dt:=a8.args c (by show c∈t.1;rw [Jq];exact zV ..)
  have ecs:tk (ax (len t.1) 1) (dr 1 t.1)=cs:=by
   rw [Jq];show List.take ((cs.length+1)-1) cs=cs
   rw [Nat.add_sub_cancel,List.take_length]
  have en:∀d,nth d t.1 0=c:=fun d=>by rw [Jq];rfl
  simp only [ecs,en]
  refine .gd (by rw [bA,aF];omega) (.gd (by rw [dh,aF];omega) (.gd (by rw [dh];exact Nat.le_refl _) (.gG a3 (.bd (TF a6 a7 a8.ib ⟨Dt.2.1,Dt.2.2⟩) fun x hx=>?_))))
  obtain ⟨KB,hx2⟩:=hx
  have key:∀(q:Int) (jo:Nat) (UG:T7),q=(s.ops.length:Int)→aY UG jo=some (s.ops++[m8 k c s.st])→Ok (kk ((),((),((),((),(D.1.set C.wi (C.p,(C.fo,(some C.a,(some C.gr,(some C.th,(some jo,(s.st:Int))))))),(D.2.2.2.2.2.1.set id (cs,(t.2.1,(t.2.2.1,(x.1.1,(true,q))))),(UG,())))))))) (wc n C s c5 D (k:Int)):=by
   intro q jo UG hq hd7
   refine gZ _ ⟨(cs,(t.2.1,(t.2.2.1,(x.1.1,(true,q))))),s.ops++[m8 k c s.st],.inr ⟨hb,c,cs,x.1.1,Jq,KB,by rw [hq],rfl⟩,?_,rfl⟩
   refine H.put (t':=(cs,(t.2.1,(t.2.2.1,(x.1.1,(true,q)))))) (u_:=s.ops++[m8 k c s.st]) (D':=(D.1.set C.wi (C.p,(C.fo,(some C.a,(some C.gr,(some C.th,(some jo,(s.st:Int))))))),(D.2.1,(D.2.2.1,(D.2.2.2.1,(D.2.2.2.2.1,(D.2.2.2.2.2.1.set id (cs,(t.2.1,(t.2.2.1,(x.1.1,(true,q))))),(UG,(D.2.2.2.2.2.2.2.1,(D.2.2.2.2.2.2.2.2.1,())))))))))) hn (.inl rfl) ht a1 a4 a3 ⟨some jo,lj hw _,.inr ⟨jo,rfl,hd7⟩⟩ H.ar H.gi rfl a5 (fun _ _=>rfl) rfl a6 (fun _ _=>rfl) a7 (fun q' o' h' _=>?_) ⟨a8.ib,?_,?_,fun _=>⟨hx2 n (by omega),?_,s.ops.length,hq,m8 k c s.st,?_,rfl,?_,rfl,rfl⟩⟩ rfl (fun o' De=>?_)
   ·rw [zK (zB.1 h').1];exact h'
   ·have:=a8.calls;show cs.length≤64
    have h':t.1.length≤64:=this
    rw [Jq] at h';rw [zR] at h';omega
   ·intro c' EX
    exact a8.args c' (by show c'∈t.1;rw [Jq];exact zT _ EX)
   ·show 0≤x.1.1.1.2.1;rw [KB];exact Dt.1
   ·rw [zJ (Nat.le_refl _),Nat.sub_self];rfl
   ·exact KB.symm
   ·rcases zX.1 De with h | h
    ·exact H.said o' h
    ·rw [zF] at h;subst h;exact Nat.zero_le _
  have one:bB (len (α:=pK) [m8 k c s.st]) 16777216:=by rw [dh,aF];show 1≤_;omega
  rcases Wx with ⟨rfl,rT⟩ | ⟨jo,rfl,Jl⟩
  ·refine .zx rfl (.zx rfl (.gd one (key 0 (len D.2.2.2.2.2.2.1) _ (by rw [rT];rfl) ?_)))
   rw [rT]
   exact gE
  ·refine .gG rfl (.gC Jl (.gG rfl (.gC Jl (.gd ?_ (.gd ?_ (key _ (len (aU D.2.2.2.2.2.2.1 jo none)) _ (gw _) ?_))))))
   ·rw [dh]
    show len s.ops+len (α:=pK) [m8 k c s.st]≤_
    rw [aF,aF];show _+1≤_;omega
   ·rw [bA,aF];exact oW Jl
   ·exact gE
 ·-- one is on its way
  rw [qo ht]
  exact H
 obtain ⟨t1,fh,hB,H1,hbz⟩:=hz
 obtain ⟨oo1,Jf,Ww⟩:=H1.world
 have Uv:(s.tl.set k t1)[k]?=some t1:=List.getElem?_set_self hk
 obtain ⟨id1,TV,w1,b1,b2,b3,b4,b5,b6,b7,b8⟩:=H1.TO k t1 Uv
 rw [a1] at b1;cases b1
 rw [a4] at b4;cases b4
 obtain ⟨c1,c2,q,c3,o,c4,Zl,c6,c7,c8⟩:=b8.busy hbz
 obtain ⟨jo,rfl,Jl⟩:∃jo,oo1=some jo∧aY z.2.2.2.2.2.2.1 jo=some fh:=by
  rcases Ww with ⟨_,h⟩ | ⟨jo,h1,h2⟩
  ·have h:fh=[]:=h
   rw [h] at c4;cases c4
  ·exact ⟨jo,h1,h2⟩
 have f0:∀d,nth d z.2.2.2.2.1 C.wi=(C.p,(C.fo,(some C.a,(some C.gr,(some C.th,(some jo,(s.st:Int))))))):=fun d=>bF Jf
 have ft:∀d,nth d z.2.2.2.2.2.1 id=t1:=fun d=>bF b2
 have fu:∀f,aj aG z.2.2.2.2.2.1 id f=z.2.2.2.2.2.1.set id (f t1):=fun f=>xM b2 f
 have fw:∀f,aj bD z.2.2.2.2.1 C.wi f=z.2.2.2.2.1.set C.wi (f (C.p,(C.fo,(some C.a,(some C.gr,(some C.th,(some jo,(s.st:Int)))))))):=fun f=>xM Jf f
 simp only [f0,ft,fu,fw]
 refine .l7 (fun y=>∃r',SD n (Th.run t1) r'∧y.2.2.2.2.1=D.2.1∧AR D.2.1 y.2.2.2.2.2.1 C.a C.j C.m∧GI (n+1) y.2.2.2.2.2.2.1 y.2.2.2.2.2.2.2.1 C.gr∧y.2.2.2.2.2.2.2.2.1=z.2.2.2.2.2.1.set id (jy t1 r')∧y.2.2.2.2.2.2.2.2.2.1=D.2.2.2.2.2.2.2.2.1) (fun y hy=>?_) fun kk gZ=>.bd (Kn c1 hn Jf H.iZ H.scopes _ _ _ _ H.ar H.gi) fun x hx=>gZ _ ⟨x.1.1,hx.1,hx.2.1,hx.2.2.1,hx.2.2.2.1,rfl,hx.2.2.2.2⟩
 obtain ⟨r',hS,y1,y2,y3,y4,y5⟩:=hy
 have g2:=lj b2 (jy t1 r')
 rw [←y4] at g2
 have gt:∀d,nth d y.2.2.2.2.2.2.2.2.1 id=jy t1 r':=fun d=>bF g2
 simp only [gt]
 have bO:(jy t1 r').2.2.2.2.2=(q:Int):=c3
 have KJ:q<fh.length:=(zB.1 c4).1
 have eq0:nN (q:Int)=q:=rfl
 simp only [bO,eq0]
 refine .gG rfl (.gC Jl (.gd (by rw [bn];omega) (.gd (by rw [bA,aF];exact KJ) (.l7 (fun v=>aY v.2.2.2.2.1 jo=some (if Rn.dg r'=true then fh.set q (o.1,(o.2.1,(o.2.2.1,((s.st:Int),o.2.2.2.2)))) else fh)) (fun v hv=>?_) fun kk gZ=>.br (fun e=>.gC Jl (gZ _ ?_)) fun e=>gZ _ ?_))))
 rotate_left
 ·have e:Rn.dg r'=true:=e
  rw [if_pos e]
  show aY (aU _ _ _) _=_
  rw [cg Jl,xM c4]
 ·have e:Rn.dg r'=false:=e
  rw [if_neg (by rw [e];simp)]
  exact Jl
 refine .l7 (fun u=>∃t2 zy w2,u.2.2.2.2.1=z.2.2.2.2.2.1.set id t2∧aY u.2.2.2.2.2.1 jo=some zy∧aY u.2.2.2.2.2.2.1 rr=some w2∧w2.length=4∧(∀x,x≠rr→aY u.2.2.2.2.2.2.1 x=aY D.2.2.2.2.2.2.2.1 x)∧((Rn.done r'=false∧t2=jy t1 r'∧zy=fh∧w2=w1)∨(Rn.done r'=true∧∃nL,nL.length≤6∧t2=(t1.1,(t1.2.1,(nL,(r',(false,t1.2.2.2.2.2)))))∧zy=fh.set q (wQ o s.st r')))) (fun u hu=>?_) fun kk gZ=>.br (fun e=>?_) fun e=>?_
 rotate_left
 ·-- a call is done
  have e:Rn.done r'=true:=e
  have ep:Rn.dg r'=true:=hS.sp.dg.trans e
  rw [if_pos ep] at hv
  refine .gC hv (.gC (cg hv) ?_)
  have Wq:Rn.code r'=0→sL (Rn.op r')→0≤r'.1.2.1∧r'.1.2.1<4:=fun h1 h2=>by
   rw [hS.sp.call]
   have h2:sL (Rn.op (Th.run t1)):=by
    have:Rn.op r'=Rn.op (Th.run t1):=by show r'.1.1=_;rw [hS.sp.call]
    rw [←this];exact h2
   exact ⟨c2,hS.eG c1 h2 h1⟩
  have g3:y.2.2.2.2.2.2.2.2.1[id]?=some (t1.1,(some rr,(t1.2.2.1,(r',(t1.2.2.2.2.1,t1.2.2.2.2.2))))):=by
   rw [g2];unfold jy;rw [b3]
  refine .bd (G8 g3 b6 b7 b8.ib Wq) fun x hx=>?_
  obtain ⟨nL,w',x1,x2,x3,x4⟩:=hx
  refine gZ _ ⟨(t1.1,(t1.2.1,(nL,(r',(false,t1.2.2.2.2.2))))),fh.set q (wQ o s.st r'),w',?_,?_,?_,x2,?_,.inr ⟨e,nL,x1,rfl,rfl⟩⟩
  ·show x.2.1=_
   rw [x3,y4,List.set_set,b3]
  ·show aY (aU _ jo _) jo=_
   have h1:=lj c4 (o.1,(o.2.1,(o.2.2.1,((s.st:Int),o.2.2.2.2))))
   rw [cg (cg hv),xM h1,List.set_set]
   rw [xM (lj c4 _),List.set_set]
   rfl
  ·show aY x.2.2.1 rr=_
   rw [x4,cg b6]
  ·intro x' nK
   show aY x.2.2.1 x'=_
   rw [x4,xT (oW b6),if_neg (fun h=>nK h.symm)]
 ·-- it aeH on
  have e:Rn.done r'=false:=e
  have ep:Rn.dg r'=false:=hS.sp.dg.trans e
  rw [if_neg (by rw [ep];simp)] at hv
  exact gZ _ ⟨jy t1 r',fh,w1,y4,hv,b6,b7,fun _ _=>rfl,.inl ⟨e,rfl,rfl,rfl⟩⟩
 obtain ⟨t2,zy,w2,u1,u2,u3,u4,u5,u6⟩:=hu
 have h2:=lj b2 t2
 rw [←u1] at h2
 refine .gC (yL h2 _) (.some (.inr ⟨rfl,k,t,⟨zy,s.st+1,s.tl.set k t2,s.rg.set k w2⟩,rfl,ht,he,?_,?_,t2,List.getElem?_set_self hk,rfl⟩))
 ·refine ⟨t1,fh,r',hB,rfl,?_⟩
  rcases u6 with ⟨e,rfl,rfl,rfl⟩ | ⟨e,nL,e1,rfl,rfl⟩
  ·exact .inl ⟨e,rfl,rfl,qo b5⟩
  ·exact .inr ⟨e,nL,w2,q,o,c3,c4,Zl,c7,rfl,rfl,rfl⟩
 ·have WK:k<s.rg.length:=by have:=H.lrg;omega
  have key:=H1.put (n':=n+1) (t':=t2) (u_:=zy) (zc:=s.st+1) (P7:=s.rg.set k w2) (w':=w2) (D':=(z.2.2.2.2.1.set C.wi (C.p,(C.fo,(some C.a,(some C.gr,(some C.th,(some jo,af .i64 (s.st:Int) 1)))))),(y.2.2.2.2.1,(y.2.2.2.2.2.1,(y.2.2.2.2.2.2.1,(y.2.2.2.2.2.2.2.1,(u.2.2.2.2.1,(u.2.2.2.2.2.1,(u.2.2.2.2.2.2.1,(y.2.2.2.2.2.2.2.2.2.1,()))))))))))
   hn (.inr rfl) Uv a1 a4 ?_ ⟨some jo,?_,.inr ⟨jo,rfl,u2⟩⟩ ?_ y3 u1 ?_ ?_ ?_ u3 u5 u4 ?_ ?_ y5 ?_
  ·have e2:(s.tl.set k t1).set k t2=s.tl.set k t2:=List.set_set ..
   rw [e2] at key
   exact key
  ·rcases u6 with ⟨e,rfl,rfl,rfl⟩ | ⟨e,nL,e1,rfl,rfl⟩
   ·exact b3
   ·exact b3
  ·show (z.2.2.2.2.1.set C.wi _)[C.wi]?=_
   rw [lj Jf,aS (by omega)]
   rfl
  ·show AR y.2.2.2.2.1 _ _ _ _
   rw [y1];exact y2
  ·exact List.getElem?_set_self WK
  ·intro i' Jn
   exact List.getElem?_set_ne (fun h=>Jn h.symm)
  ·exact zM ..
  ·intro q' o' h' ki
   rcases u6 with ⟨e,rfl,rfl,rfl⟩ | ⟨e,nL,e1,rfl,rfl⟩
   ·exact h'
   ·rw [List.getElem?_set_ne]
    ·exact h'
    ·intro h
     subst h
     have h':fh[q]?=some o':=h'
     rw [c4] at h';cases h'
     exact ki Zl
  ·rcases u6 with ⟨e,rfl,rfl,rfl⟩ | ⟨e,nL,e1,rfl,rfl⟩
   ·exact ⟨b8.ib,b8.calls,b8.args,fun _=>⟨hS.inv c1 hn e,by show 0≤r'.1.2.1;rw [hS.sp.call];exact c2,q,c3,o,c4,Zl,by show _=r'.1;rw [hS.sp.call];exact c6,c7,c8⟩⟩
   ·exact ⟨e1,b8.calls,b8.args,fun h=>by cases h⟩
  ·rcases u6 with ⟨e,rfl,rfl,rfl⟩ | ⟨e,nL,e1,rfl,rfl⟩
   ·exact H1.said
   ·intro o' De
    rcases List.mem_or_eq_of_mem_set De with h | rfl
    ·exact H1.said o' h
    ·have:=hS.sp.yX e
     show (Rn.yX r').length≤10000
     omega
open Go.Bm Go.oQ
theorem Ak {α:Type} {d x:α} {l:List α}:nth d (cat l [x]) (len l)=x:=vk
def mK (o:oK):Prop:=(o.1=0∧0≤o.2.1∧o.2.1≤99∧o.2.2=0)∨(o.1=1∧0≤o.2.1∧o.2.1≤5∧o.2.2=0)∨(o.1=2∧0≤o.2.1∧o.2.1≤5∧0≤o.2.2∧o.2.2≤5)∨(o.1=3∧0≤o.2.1∧o.2.1≤5∧0≤o.2.2∧o.2.2≤8)∨(o.1=4∧o.2.1=0∧o.2.2=0)
def iK (f:List (List oK)):Prop:=f.length≤8∧∀l∈f,l.length≤8∧∀o∈l,mK o
theorem iK.ok {f:List (List oK)} (h:iK f):DJ f:=⟨h.1,fun l hl=>⟨(h.2 l hl).1,fun o ho=>by
 have:=(h.2 l hl).2 o ho
 unfold mK at this;unfold Kl;omega⟩⟩
theorem vQ {f:List (List oK)} {i:Nat} {l:List oK} (hl:nth [] f i=l) (h8:l.length≤8) (ho:∀o∈l,mK o) (v1) :
  loop (g.gX f (((i:Int),()),((),((),((),())))) v1) ((0,()),((),((),((),()))))=v1 (((af IntKind.i64 (i:Int) 1),()),((),((),((),())))):=by
 refine (lx (fun k=>((((k:Nat):Int),()),((),((),((),()))))) (fun _=>v1 (((af IntKind.i64 (i:Int) 1),()),((),((),((),()))))) l.length (by unfold lQ;omega) (fun K=>?_) (fun k hk=>.inr ⟨rfl,fun K=>?_⟩))
 ·unfold g.gX
  dsimp only
  rw [show nth [] f (nN (i:Int))=l from hl]
  repeat refine HS ?_
  rfl
 ·have hp:=ho l[k] (List.getElem_mem hk)
  have e:∀d,nth d l (nN (k:Int))=l[k]:=fun d=>fE hk
  unfold g.gX
  dsimp only
  rw [show nth [] f (nN (i:Int))=l from hl]
  rw [e]
  generalize l[k]=o at *
  have ei:af IntKind.i64 (k:Int) 1=((k+1:Nat):Int):=by rw [aS (by omega)];omega
  have ew:dt IntKind.i64 o.1=o.1:=fT (by unfold mK at hp;omega)
  rw [ei,ew]
  obtain ⟨op,a,b⟩:=o
  unfold mK at hp
  dsimp only at hp ⊢
  have wT:∀x lo hi:Int,lo≤x→x≤hi→within x lo hi=true:=fun x lo hi h1 h2=>ku.2 ⟨h1,h2⟩
  rcases hp with ⟨rfl,h1,h2,rfl⟩ | ⟨rfl,h1,h2,rfl⟩ | ⟨rfl,h1,h2,h3,h4⟩ | ⟨rfl,h1,h2,h3,h4⟩ | ⟨rfl,rfl,rfl⟩
  ·have w1:=wT a 0 99 (by omega) (by omega)
   have w2:=wT 0 0 0 (by omega) (by omega)
   repeat refine HS ?_
   rfl
  ·have w1:=wT a 0 5 (by omega) (by omega)
   have w2:=wT 0 0 0 (by omega) (by omega)
   repeat refine HS ?_
   rfl
  ·have w1:=wT a 0 5 (by omega) (by omega)
   have w2:=wT b 0 5 (by omega) (by omega)
   repeat refine HS ?_
   rfl
  ·have w1:=wT a 0 5 (by omega) (by omega)
   have w2:=wT b 0 8 (by omega) (by omega)
   repeat refine HS ?_
   rfl
  ·have w2:=wT 0 0 0 (by omega) (by omega)
   repeat refine HS ?_
   rfl
theorem vP {f:List (List oK)} (h:iK f):g.jL f=some ((true,()),()):=by
 have h8:=h.1
 unfold g.jL
 refine (lx (fun k=>((((k:Nat):Int),()),((),((),((),()))))) (fun _=>some ((true,()),())) f.length (by unfold lQ;omega) (fun K=>?_) (fun k hk=>.inr ⟨rfl,fun K=>?_⟩))
 ·unfold g.ir
  dsimp only
  repeat refine HS ?_
  have:ck (zN (len f)) 8=true:=decide_eq_true (by rw [fM,aF];omega)
  rw [this]
 ·have hl:=h.2 f[k] (List.getElem_mem hk)
  unfold g.ir
  dsimp only
  repeat refine HS ?_
  refine Eq.trans (vQ (fE hk) hl.1 hl.2 K) ?_
  have ei:af IntKind.i64 (k:Int) 1=((k+1:Nat):Int):=by rw [aS (by omega)];omega
  rw [ei]
theorem tV {r2:T3} {r4:T4} {a n:Int} (ha:0≤a∧a≤65536∧a%8=0) (hn:0≤n∧n≤65536∧n%8=0) :
  ∃pO pN,g.fQ a n r2 r4=some (((some r2.length),(0,())),(pO,(pN,())))∧m0 pO pN r2.length a (a+n) (if 0<n then [(a,n)] else []):=by
 have w1:within a 0 65536=true:=ku.2 ⟨ha.1,ha.2.1⟩
 have w2:within n 0 65536=true:=ku.2 ⟨hn.1,hn.2.1⟩
 have hb:=(ya (a:=a) (b:=n) (by omega) (by omega)).2 ⟨ha.2.2,hn.2.2⟩
 have es:af IntKind.i64 a n=a+n:=aS (by omega)
 by_cases h0:0<n
 ·rw [if_pos h0]
  refine ⟨?r2,?r4,?eq,?rel⟩
  case eq=>
   unfold g.fQ
   repeat refine HS ?_
   rfl
  case rel=>
   rw [es]
   refine ⟨some r4.length,?_,.inr ⟨_,rfl,gE⟩⟩
   unfold aj
   rw [Ak]
   exact oT (by show (r2++[_])[r2.length]?=_;simp;rfl)
 ·rw [if_neg h0]
  refine ⟨?s2,?s4,?eq2,?rel2⟩
  case eq2=>
   unfold g.fQ
   repeat refine HS ?_
   rfl
  case rel2=>
   rw [es]
   exact ⟨none,by show (r2++[_])[r2.length]?=_;simp,.inl ⟨rfl,rfl⟩⟩
open Go.Bm Go.oQ
theorem tW {p:mE} (hp:eM p=true) (d1:T1) (d2:T2) (d3:T3) (d4:T4):Ok (g.jK p d1 d2 d3 d4) (fun r=>r.1.1=some d1.length∧r.1.2.1=some d3.length∧(∃m,AR r.2.1 r.2.2.1 d1.length d2.length m)∧GI 0 r.2.2.2.1 r.2.2.2.2.1 d3.length):=by
 have h:=fa.1 hp
 have e1:g.jI p=some ((p.1*64+p.2.2.1+p.2.2.2,(0,())),()):=by
  unfold g.jI
  rw [xE (pC hp),aS (by dsimp only;omega)]
 have hN:0≤p.1*64+p.2.2.1+p.2.2.2∧p.1*64+p.2.2.1+p.2.2.2≤65536∧(p.1*64+p.2.2.1+p.2.2.2)%8=0:=by omega
 generalize hM:p.1*64+p.2.2.1+p.2.2.2=M at e1 hN
 have e2:g.jO M d1 d2=some (((some d1.length),(0,())),((cat d1 [some d2.length]),((cat d2 [some (rep (α:=Int) (nN M) 0)]),()))):=by
  unfold g.jO
  rw [xE (aM _ _ _)]
  have:within M 0 65536=true:=fp.2 (by omega)
  rw [this]
  show br (aw (ae (dq M 8) 0)) _ _=_
  have:ae (dq M 8) 0=true:=cU.2 (by rw [yo (by omega)];omega)
  rw [this]
  show gd (bc M) _=_
  rw [vI (show bc M by rw [bn];omega),vI (show bB (nN M) 16777216 by rw [dh,cJ];omega)]
  rfl
 have hA:AR (cat d1 [some d2.length]) (cat d2 [some (rep (α:=Int) (nN M) 0)]) d1.length d2.length M.toNat:=⟨by show (d1++[_])[d1.length]?=_;simp,by omega,_,gE,by show (List.replicate _ _).length=_;rw [List.length_replicate];rfl⟩
 obtain ⟨r3,r4,e3,hG⟩:=tV (r2:=d3) (r4:=d4) (a:=p.1*64+p.2.2.1) (n:=p.2.2.2) (by omega) (by omega)
 have hGI:GI 0 r3 r4 d3.length:=by
  refine ⟨_,_,_,hG,by omega,?_,?_⟩
  ·intro x hx
   split at hx
   ·rw [zF] at hx;subst hx;unfold je;dsimp only;omega
   ·cases hx
  ·split
   ·exact Nat.le_refl _
   ·exact Nat.zero_le _
 unfold g.jK
 refine .gC e1 (.br (fun e=>nomatch (show false=true from e)) fun _=>.gC e2 (.gG rfl (.gC (pC hp) (.gC e3 (.gG rfl (.gC (lL hp) (.bd (dK hA _ _ _) fun w hw=>.bd (bL hw _ _ _ _) fun w hw=>.bd (bL hw _ _ _ _) fun w hw=>.some ⟨rfl,rfl,⟨_,hw⟩,hGI⟩)))))))
theorem D8 {α:Type} {d x:α} {l:List α}:nth d (cat l [x]) (len l)=x:=bF (by show (l++[x])[l.length]?=_;simp)
theorem D7 {α:Type} {d x:α} {l:List α} (f:α→α):aj d (cat l [x]) (len l) f=cat l [f x]:=by
 rw [xM (show (cat l [x])[len l]?=some x by show (l++[x])[l.length]?=_;simp)]
 show (l++[x]).set l.length (f x)=l++[f x]
 rw [List.set_append_right _ _ (Nat.le_refl _),Nat.sub_self];rfl
theorem JL {l:List oK} (hl:l.length≤100):g.eN l=some ((l,()),()):=by
 unfold g.eN
 rw [vI (show bB (aL 0 (len l)) 16777216 by rw [dh,aF];show 0+_≤_;omega)]
 rfl
theorem TH {l:List lS} (hl:l.length≤100):g.fZ l=some ((l,()),()):=by
 unfold g.fZ
 rw [vI (show bB (aL 0 (len l)) 16777216 by rw [dh,aF];show 0+_≤_;omega)]
 rfl
def VL:U1:=((0,(0,(0,(0,(0,(0,0)))))),(0,(0,(0,(0,([],(0,(0,(0,(0,([],(0,([],(0,(false,(false,(false,(0,(0,[])))))))))))))))))))
def Om (cT:List (List lS)) (b i:Nat):pV:=(cT.getD i [],(some (b+i),([],(VL,(false,0)))))
def BF (cT:List (List lS)) (b k:Nat):List pV:=(List.range k).map (Om cT b)
theorem uG (cT:List (List lS)) (b k:Nat):BF cT b (k+1)=BF cT b k++[Om cT b k]:=by unfold BF;rw [List.range_succ,List.map_append];rfl
theorem sR (cT:List (List lS)) (b k:Nat):(BF cT b k).length=k:=by unfold BF;rw [zH,List.length_range]
def ids (b k:Nat):List Nat:=(List.range k).map (fun i=>b+i)
theorem C4 (b k:Nat):ids b (k+1)=ids b k++[b+k]:=by unfold ids;rw [List.range_succ,List.map_append];rfl
theorem mN (b k:Nat):(ids b k).length=k:=by unfold ids;rw [zH,List.length_range]
theorem tN {b k i x:Nat} (h:(ids b k)[i]?=some x):x=b+i∧i<k:=by
 have hi:i<k:=by have:=(zB.1 h).1;rw [mN] at this;exact this
 unfold ids at h
 rw [zL,List.getElem?_range hi] at h
 cases h
 exact ⟨rfl,hi⟩
theorem yx {b k i:Nat} (h:i<k):(ids b k)[i]?=some (b+i):=by
 unfold ids
 rw [zL,List.getElem?_range h];rfl
theorem BE {cT:List (List lS)} {b k i:Nat} {t:pV} (h:(BF cT b k)[i]?=some t):t=Om cT b i∧i<k:=by
 have hi:i<k:=by have:=(zB.1 h).1;rw [sR] at this;exact this
 unfold BF at h
 rw [zL,List.getElem?_range hi] at h
 cases h
 exact ⟨rfl,hi⟩
def tj (p:mE) (cT:List (List lS)):Prop:=(cT.length:Int)≤p.2.1∧∀l∈cT,l.length≤64∧∀c∈l,0≤c.2.1∧0≤c.2.2.1∧0≤c.2.2.2.1
def TK (p:mE) (cT:List (List lS)) (b:Nat):WS:=⟨[],0,BF cT b p.2.1.toNat,List.replicate p.2.1.toNat [0,0,0,0]⟩
def y0 (p:mE) (cT:List (List lS)) (c7:T7) (d0:T0) (d7:T2) (r:(Option Nat×(Int×Unit))×(T0×(T1×(T2×(T3×(T4×(T5×(T6×(T2×(T9×Unit)))))))))):Prop:=
 r.1.1=some d0.length∧r.1.2.1=0∧∃C:WC,C.wi=d0.length∧C.ts.length=p.2.1.toNat∧WI 0 C (TK p cT d7.length) r.2.2.2.2.2.2.1 (r.2.1,(r.2.2.1,(r.2.2.2.1,(r.2.2.2.2.1,(r.2.2.2.2.2.1,(r.2.2.2.2.2.2.2.1,(c7,(r.2.2.2.2.2.2.2.2.1,(r.2.2.2.2.2.2.2.2.2.1,())))))))))
set_option maxHeartbeats 2000000 in
theorem LZ {p:mE} (hp:eM p=true) {iZ:List (List oK)} (hf:iK iZ) {cT:List (List lS)} (hq:tj p cT) (c7:T7) (d0:T0) (d1:T1) (d2:T2) (d3:T3) (d4:T4) (d5:T5) (d6:T6) (d7:T2) (d9:T9) :
  Ok (g.iE p iZ cT c7 d0 d1 d2 d3 d4 d5 d6 d7 d9) (y0 p cT c7 d0 d7):=by
 have Gy:=fa.1 hp
 have hf8:=hf.1
 obtain ⟨q1,q2⟩:=hq
 unfold g.iE
 refine .l7 (fun _=>True) (fun s _=>?_) fun kk gZ=>.gC (dy p) (.br (fun e=>?_) fun _=>.gC (vP hf) (.br (fun e=>absurd e (by decide)) fun _=>.br (fun e=>?_) fun _=>?_))
 rotate_left
 ·have e:aw (eM p)=true:=e
  rw [hp] at e;cases e
 ·have:=dX.1 e
  rw [gw] at this;omega
 ·refine .loop (fun m s=>∃k:Nat,s.1.1=(k:Int)∧k+m=cT.length) (fun m s gg hI ih=>?_) (N:=cT.length) (by unfold lQ;omega) ⟨0,rfl,by omega⟩
  obtain ⟨k,h1,h2⟩:=hI
  unfold g.jv
  rw [gw,h1]
  refine .br (fun hb=>?_) fun _=>gZ _ trivial
  have hb:=dX.1 hb
  have ek:nN (k:Int)=k:=rfl
  refine .gd (by rw [bn];omega) (.gd (by rw [bA,aF,ek];omega) (.br (fun e=>?_) fun _=>ih (m-1) _ (by omega) ⟨k+1,?_,by omega⟩))
  ·have e:=dX.1 e
   rw [gw,ek,fE (show k<cT.length by omega)] at e
   have:=(q2 _ (List.getElem_mem (show k<cT.length by omega))).1
   omega
  ·show af .i64 (k:Int) 1=_;rw [aS (by omega)];rfl
 refine .bd (tW hp d1 d2 d3 d4) fun v hv=>?_
 obtain ⟨v1,v2,⟨ma,v3⟩,v4⟩:=hv
 refine .gG v1 (.gG v2 ?_)
 refine .loop (fun m s=>∃(k:Nat) (fo:Option Nat),s.1.1=(k:Int)∧k+m=iZ.length∧s.2.2.2.2.1=cat d0 [(p,(fo,(some d1.length,(some d3.length,(none,(none,0))))))]∧((fo=none∧k=0)∨∃jf,fo=some jf∧aY s.2.2.2.2.2.1 jf=some (iZ.take k))) (fun m s gg hI ih=>?_) (N:=iZ.length) (by unfold lQ;omega) ⟨0,none,rfl,by omega,rfl,.inl ⟨rfl,rfl⟩⟩
 obtain ⟨k,fo,h1,h2,h3,h4⟩:=hI
 unfold g.dv
 rw [gw,h1,h3]
 simp only [D8,D7]
 refine .br (fun hb=>?_) fun hb=>?_
 ·have hb:=dX.1 hb
  have ek:nN (k:Int)=k:=rfl
  have hk:k<iZ.length:=by omega
  have en:nth [] iZ (nN (k:Int))=iZ[k]:=by rw [ek];exact fE hk
  have pR:(iZ[k]).length≤100:=by have:=(hf.2 _ (List.getElem_mem hk)).1;omega
  have hi:af .i64 (k:Int) 1=((k+1:Nat):Int):=by rw [aS (by omega)];rfl
  rw [en]
  refine .gd (by rw [bn];omega) (.gd (by rw [bA,aF,ek];exact hk) ?_)
  rcases h4 with ⟨rfl,rfl⟩ | ⟨jf,rfl,hj⟩
  ·refine .zx rfl (.gC (JL pR) (.gd (by rw [dh,aF];show 1≤_;omega) (ih (m-1) _ (by omega) ⟨1,some (len s.2.2.2.2.2.1),hi,by omega,rfl,.inr ⟨_,rfl,?_⟩⟩)))
   show aY (cat _ _) _=_
   rw [show (len s.2.2.2.2.2.1)=List.length s.2.2.2.2.2.1 from rfl,gE]
   congr 1
   rw [List.take_succ_eq_append_getElem hk];rfl
  ·refine .gG rfl (.gC (JL pR) (.gC hj (.gd ?_ (.gd (by rw [bA,aF];exact oW hj) (ih (m-1) _ (by omega) ⟨k+1,some (len (aU s.2.2.2.2.2.1 jf none)),hi,by omega,rfl,.inr ⟨_,rfl,?_⟩⟩)))))
   ·rw [dh];show len (iZ.take k)+1≤_;rw [aF,List.length_take];omega
   ·show aY (cat _ _) _=_
    rw [show (len (aU s.2.2.2.2.2.1 jf none))=List.length (aU s.2.2.2.2.2.1 jf none) from rfl,gE]
    congr 1
    rw [List.take_succ_eq_append_getElem hk];rfl
 have hb:=iV.1 hb
 have hk:k=iZ.length:=by omega
 have hF:EC fo s.2.2.2.2.2.1:=by
  refine ⟨iZ,hf.ok,?_⟩
  rcases h4 with ⟨rfl,h0⟩ | ⟨jf,rfl,hj⟩
  ·exact .inl ⟨rfl,zZ (by omega)⟩
  ·rw [hk,List.take_length] at hj
   exact .inr ⟨jf,rfl,hj⟩
 clear ih hb h4
 have hT:∃n:Nat,p.2.1=(n:Int)∧1≤n∧n≤4:=⟨p.2.1.toNat,by omega,by omega,by omega⟩
 obtain ⟨nt,Wz,n1,n4⟩:=hT
 refine .loop (fun m z=>∃(i:Nat) (TP:Option Nat),z.1.1=(i:Int)∧i+m=nt∧z.2.2.2.2.1=cat d0 [(p,(fo,(some d1.length,(some d3.length,(TP,(none,0))))))]∧z.2.2.2.2.2.2.1=d6++BF cT d7.length i∧z.2.2.2.2.2.2.2.1=d7++List.replicate i (some [0,0,0,0])∧((TP=none∧i=0)∨∃th,TP=some th∧aY z.2.2.2.2.2.1 th=some ((ids d6.length i).map some))) (fun m z gg hI ih=>?_) (N:=nt) (by unfold lQ;omega) ⟨0,none,rfl,by omega,rfl,by show d6=d6++[];simp,by show d7=d7++[];simp,.inl ⟨rfl,rfl⟩⟩
 obtain ⟨i,TP,i1,i2,i3,i4,i5,i6⟩:=hI
 unfold g.jx
 rw [i1,i3,Wz]
 simp only [D8,D7]
 have e6:len z.2.2.2.2.2.2.1=d6.length+i:=by rw [i4,aF,zY,sR]
 have e7:len z.2.2.2.2.2.2.2.1=d7.length+i:=by rw [i5,aF,zY,List.length_replicate]
 refine .br (fun hb=>?_) fun hb=>.some ?_
 ·have hb:=dX.1 hb
  have hi:af .i64 (i:Int) 1=((i+1:Nat):Int):=by rw [aS (by omega)];rfl
  refine .l7 (fun y=>y.2.2.2.2.1=d6++BF cT d7.length (i+1)) (fun y hy=>?_) fun kk gZ=>.br (fun e=>?_) fun e=>gZ _ ?_
  ·have key:∀(Zu:T5) (j:Nat),aY Zu j=some ((ids d6.length (i+1)).map some)→Ok (gg (((af .i64 (i:Int) 1),()),((),((),((),(cat d0 [(p,(fo,(some d1.length,(some d3.length,(some j,(none,0))))))],(Zu,(y.2.2.2.2.1,(cat z.2.2.2.2.2.2.2.1 [some (rep (α:=Int) 4 0)],()))))))))) (y0 p cT c7 d0 d7):=by
    intro Zu j hT5
    refine ih (m-1) _ (by omega) ⟨i+1,some j,hi,by omega,rfl,hy,?_,.inr ⟨j,rfl,hT5⟩⟩
    show cat _ _=_
    rw [i5,List.replicate_succ',←List.append_assoc];rfl
   rcases i6 with ⟨rfl,rfl⟩ | ⟨th,rfl,Uk⟩
   ·refine .zx rfl (.gd (by rw [dh,aF];show 1≤_;omega) (key _ (len z.2.2.2.2.2.1) ?_))
    rw [show (len z.2.2.2.2.2.1)=List.length z.2.2.2.2.2.1 from rfl,gE,e6]
    rfl
   ·refine .gG rfl (.gC Uk (.gd ?_ (.gd (by rw [bA,aF];exact oW Uk) (key _ (len (aU z.2.2.2.2.2.1 th none)) ?_))))
    ·rw [dh];show len ((ids d6.length i).map some)+1≤_;rw [aF,zH,mN];omega
    ·rw [show (len (aU z.2.2.2.2.2.1 th none))=List.length (aU z.2.2.2.2.2.1 th none) from rfl,gE,e6,C4,List.map_append]
     rfl
  ·have e:=dX.1 e
   rw [gw] at e
   have ek:nN (i:Int)=i:=rfl
   have Uw:i<cT.length:=by omega
   have pR:(cT[i]).length≤100:=by have:=(q2 _ (List.getElem_mem Uw)).1;omega
   refine .gd (by rw [bn];omega) (.gd (by rw [bA,aF,ek];exact Uw) ?_)
   rw [ek,fE Uw]
   refine .gC (TH pR) (gZ _ ?_)
   show cat _ _=_
   rw [i4,e7,uG,←List.append_assoc]
   unfold Om
   rw [zA,zD Uw]
   rfl
  ·have e:=iV.1 e
   rw [gw] at e
   show cat _ _=_
   rw [i4,e7,uG,←List.append_assoc]
   unfold Om
   rw [zA,zb (by omega)]
   rfl
 ·have hb:=iV.1 hb
  have hi:i=nt:=by omega
  subst hi
  rcases i6 with ⟨_,h0⟩ | ⟨th,rfl,Uk⟩
  ·omega
  have en:p.2.1.toNat=i:=by omega
  refine ⟨rfl,rfl,⟨d0.length,d1.length,d3.length,th,d2.length,ma,p,fo,ids d6.length i,ids d7.length i⟩,rfl,by rw [mN,en],?_⟩
  unfold TK
  rw [en]
  refine ⟨⟨none,?_,.inl ⟨rfl,rfl⟩⟩,v3,v4,hF,by show p.1≤100;omega,Uk,by rw [mN];exact n4,by rw [sR,mN],by rw [List.length_replicate,mN],fun a b x h h'=>by have:=tN h;have:=tN h';omega,fun a b x h h'=>by have:=tN h;have:=tN h';omega,fun o ho=>(nomatch ho),?_⟩
  ·show (d0++[_])[d0.length]?=_;simp
  ·intro k t hk0
   dsimp only at hk0 ⊢
   obtain ⟨rfl,hk⟩:=BE hk0
   refine ⟨d6.length+k,d7.length+k,[0,0,0,0],yx hk,?_,rfl,yx hk,by rw [List.getElem?_replicate,if_pos hk],?_,rfl,?_⟩
   ·rw [i4,zJ (Nat.le_add_right _ _),Nat.add_sub_cancel_left]
    unfold BF
    rw [zL,List.getElem?_range hk];rfl
   ·rw [BX,i5,zJ (Nat.le_add_right _ _),Nat.add_sub_cancel_left,List.getElem?_replicate,if_pos hk]
   ·have hm:∀l,cT[k]?=some l→l∈cT:=fun l h=>zG h
    have hg:cT.getD k []=[]∨cT.getD k []∈cT:=by
     rw [zA]
     cases h:cT[k]? with
     | none=>exact .inl rfl
     | some l=>exact .inr (hm l h)
    refine ⟨by show 0≤6;omega,?_,?_,fun h=>by cases h⟩
    ·show (cT.getD k []).length≤64
     rcases hg with h | h
     ·rw [h];exact Nat.zero_le _
     ·exact (q2 _ h).1
    ·show ∀c∈cT.getD k [],_
     rcases hg with h | h
     ·rw [h];intro c hc;cases hc
     ·exact (q2 _ h).2
open Go.Bm Go.oQ
section
variable {n:Nat} {C:WC} {s:WS} {c5:T5} {D:Ds}
theorem Hv (H:WI n C s c5 D):g.gu C.wi D.1 D.2.1 D.2.2.1 D.2.2.2.1 D.2.2.2.2.1 c5 D.2.2.2.2.2.1 D.2.2.2.2.2.2.1 D.2.2.2.2.2.2.2.1 D.2.2.2.2.2.2.2.2.1=some (((s.st:Int),()),()):=by
 obtain ⟨oo,hw,_⟩:=H.world
 unfold g.gu
 rw [bF hw]
theorem TJ {l:List Int} (hl:l.length≤1000000):g.cq l=some ((l,()),()):=by
 unfold g.cq
 rw [vI (show bB (aL 0 (len l)) 16777216 by rw [dh,aF];show 0+_≤_;omega)]
 rfl
theorem LY (H:WI n C s c5 D) (mg:s.ops.length≤10000):Ok (g.dS C.wi D.1 D.2.1 D.2.2.1 D.2.2.2.1 D.2.2.2.2.1 c5 D.2.2.2.2.2.1 D.2.2.2.2.2.2.1 D.2.2.2.2.2.2.2.1 D.2.2.2.2.2.2.2.2.1) (fun r=>r.1.1=s.ops):=by
 obtain ⟨oo,hw,Wx⟩:=H.world
 have e0:∀d,nth d D.1 C.wi=(C.p,(C.fo,(some C.a,(some C.gr,(some C.th,(oo,(s.st:Int))))))):=fun d=>bF hw
 have Wn:=H.said
 unfold g.dS
 simp only [e0]
 refine .l7 (fun z=>z.2.1.1=s.ops) (fun z hz=>?_) fun kk gZ=>?_
 ·refine .loop (fun m y=>∃i:Nat,y.1.1=(i:Int)∧i+m=s.ops.length∧y.2.1.1=s.ops) (fun m y gg hI ih=>?_) (N:=s.ops.length) (by unfold lQ;omega) ⟨0,rfl,by omega,hz⟩
  obtain ⟨i,h1,h2,h3⟩:=hI
  unfold g.fN
  rw [hz,h1,h3,gw]
  refine .br (fun hb=>?_) fun hb=>.some rfl
  have hb:=dX.1 hb
  have ei:nN (i:Int)=i:=rfl
  have hi:i<s.ops.length:=by omega
  have en:∀d,nth d s.ops (nN (i:Int))=s.ops[i]:=fun d=>fE hi
  have hx:af .i64 (i:Int) 1=((i+1:Nat):Int):=by rw [aS (by omega)];rfl
  have hg:bf (nN (i:Int)) (len s.ops):=by rw [bA,aF,ei];exact hi
  simp only [en]
  have hs:=Wn _ (List.getElem_mem hi)
  refine .gd (by rw [bn];omega) (.gd hg (.gC (TJ (by omega)) (.gd (by rw [bn];omega) (.gd hg (ih (m-1) _ (by omega) ⟨i+1,hx,by omega,?_⟩)))))
  dsimp only
  rw [xM (show s.ops[nN (i:Int)]?=some s.ops[i] from zD hi)]
  exact List.set_getElem_self hi
 ·rcases Wx with ⟨rfl,rT⟩ | ⟨jo,rfl,hj⟩
  ·exact .zx rfl (gZ _ rT.symm)
  ·exact .gG rfl (.gC hj (.gd (by rw [dh,aF];omega) (gZ _ rfl)))
end
open Go.Bm
set_option maxRecDepth 1000000
set_option maxHeartbeats 0
def sg8:dM:=⟨[(true,(.pair (.pair (.int .i64) (.pair (.int .i64) (.pair (.int .i64) (.int .i64)))) (.pair (.aK (.aK (.pair (.int .u8) (.pair (.int .i64) (.int .i64))))) (.aK (.aK (.pair (.int .u8) (.pair (.int .u8) (.pair (.int .u8) (.pair (.int .u8) (.pair (.int .i64) (.pair (.int .i64) (.int .i64))))))))))))],[(true,(.pair (.int .i64) (.pair (.int .i64) (.pair (.int .i64) (.int .i64))))),(false,(.aK (.aK (.pair (.int .u8) (.pair (.int .i64) (.int .i64)))))),(false,(.aK (.aK (.pair (.int .u8) (.pair (.int .u8) (.pair (.int .u8) (.pair (.int .u8) (.pair (.int .i64) (.pair (.int .i64) (.int .i64))))))))))],[],[]⟩
def g.jt (a0:((Int×U4)×((List (List U4))×U7))) (v0:(((Int×U4)×Unit)×Unit)) (k:(((Int×Unit)×((U7×Unit)×pq))→(Option Ht))) (s:((Int×Unit)×((U7×Unit)×pq))):(Option Ht):=(br (a_ s.1.1 (zN (len s.2.1.1))) (gd (bc s.1.1) (gd (bf (nN s.1.1) (len s.2.1.1)) (gd (bc s.1.1) (gd (bf (nN s.1.1) (len s.2.1.1)) (gd (bc (lA (zN (len (nth [] s.2.1.1 (nN s.1.1)))) 20)) (gd (bB 0 (nN (lA (zN (len (nth [] s.2.1.1 (nN s.1.1)))) 20))) (gd (bB (nN (lA (zN (len (nth [] s.2.1.1 (nN s.1.1)))) 20)) (len (nth [] s.2.1.1 (nN s.1.1)))) (gd (bc s.1.1) (gd (bf (nN s.1.1) (len s.2.1.1)) (k (((af .i64 s.1.1 1),()),(((aj [] s.2.1.1 (nN s.1.1) (fun r0=>(tk (ax (nN (lA (zN (len r0)) 20)) 0) (dr 0 r0)))),()),((),((),())))))))))))))) (bd (g.gT a0.2.1) (fun p1=>(some ((v0.1.1,(p1.1.1,(s.2.1.1,()))),())))))
def g.js (a0:((Int×U4)×((List (List U4))×U7))) (v0:(((Int×U4)×Unit)×Unit)) (v1:(Unit×((U7×Unit)×pq))→(Option Ht)) (k:(((Int×Unit)×((U7×Unit)×pq))→(Option Ht))) (s:((Int×Unit)×((U7×Unit)×pq))):(Option Ht):=(jn (fun (k0:(Unit×U2)→_)=>(br (a_ s.1.1 (zN (len a0.2.2))) (br (a_ s.1.1 v0.1.1.2.1) (k0 ((),((),((),((),()))))) (v1 ((),((s.2.1.1,()),((),((),())))))) (v1 ((),((s.2.1.1,()),((),((),()))))))) (fun (s1:(Unit×U2))=>(gd (bc s.1.1) (gd (bf (nN s.1.1) (len a0.2.2)) (gd (bc s.1.1) (gd (bf (nN s.1.1) (len a0.2.2)) (gd (bc (lA (zN (len (nth [] a0.2.2 (nN s.1.1)))) 64)) (gd (bB 0 (nN (lA (zN (len (nth [] a0.2.2 (nN s.1.1)))) 64))) (gd (bB (nN (lA (zN (len (nth [] a0.2.2 (nN s.1.1)))) 64)) (len (nth [] a0.2.2 (nN s.1.1)))) (gd (bB (aL (len s.2.1.1) (len [(tk (ax (nN (lA (zN (len (nth [] a0.2.2 (nN s.1.1)))) 64)) 0) (dr 0 (nth [] a0.2.2 (nN s.1.1))))])) 16777216) (k (((af .i64 s.1.1 1),()),(((cat s.2.1.1 [(tk (ax (nN (lA (zN (len (nth [] a0.2.2 (nN s.1.1)))) 64)) 0) (dr 0 (nth [] a0.2.2 (nN s.1.1))))]),()),((),((),())))))))))))))))
def g.gV (a0:((Int×U4)×((List (List U4))×U7))):(Option Ht):=(bd (g.gU a0.1) (fun p0=>(jn (fun (k1:(Unit×((U7×Unit)×pq))→_)=>(loop (g.js a0 p0 k1) ((0,()),(([],()),((),((),())))))) (fun (s6:(Unit×((U7×Unit)×pq)))=>(loop (g.jt a0 p0) ((0,()),((s6.2.1.1,()),((),((),())))))))))
def F8:Plain sg8:=fun x c d=>g.gV x.1
theorem ct8:bJ Tryz.prog 8 sg8 F8:=bY (ao Zh (ao Zg (aN))) fun x c d=>by kernel_rfl
open Go.Bm
def sg4:dM:=⟨[(true,(.pair (.pair (.int .i64) (.pair (.int .i64) (.pair (.int .i64) (.int .i64)))) (.pair (.aK (.aK (.pair (.int .u8) (.pair (.int .i64) (.int .i64))))) (.aK (.aK (.pair (.int .u8) (.pair (.int .u8) (.pair (.int .u8) (.pair (.int .u8) (.pair (.int .i64) (.pair (.int .i64) (.int .i64)))))))))))),(false,(.aK (.int .u8)))],[(false,.bool)],[],[(0,R0),(1,R1),(2,R2),(3,R3),(4,R4),(5,R5),(6,R6),(7,R7),(8,R8),(9,R9)]⟩
def g.eI (v0:(((List U3)×Unit)×Unit)) (v1:(Unit×U6)) (v2:U9) (v3:Ht) (v4:Nat) (k:(((Int×Unit)×(Unit×(Unit×(((Int×(Int×kE))×((Int×(Int×kE))×Unit))×Unit))))→Es)) (s:((Int×Unit)×(Unit×(Unit×(((Int×(Int×kE))×((Int×(Int×kE))×Unit))×Unit))))):Es:=(br (a_ s.1.1 (zN (len v0.1.1))) (gd (bc s.1.1) (gd (bf (nN s.1.1) (len v0.1.1)) (jn (fun (k0:(Unit×U2)→_)=>(br (a_ (nth aH v0.1.1 (nN s.1.1)).1 0) (some ((false,()),(v1.2.2.2.2.1,(v1.2.2.2.2.2.1,(v1.2.2.2.2.2.2.1,(v1.2.2.2.2.2.2.2.1,(v1.2.2.2.2.2.2.2.2.1,(v2.2.2.2.2.2.2.1,v1.2.2.2.2.2.2.2.2.2)))))))) (br (ck (zN (len v3.1.2.2.1)) (nth aH v0.1.1 (nN s.1.1)).1) (some ((false,()),(v1.2.2.2.2.1,(v1.2.2.2.2.2.1,(v1.2.2.2.2.2.2.1,(v1.2.2.2.2.2.2.2.1,(v1.2.2.2.2.2.2.2.2.1,(v2.2.2.2.2.2.2.1,v1.2.2.2.2.2.2.2.2.2)))))))) (br (ae (nth aH v0.1.1 (nN s.1.1)).1 0) (gd (bc (nth aH v0.1.1 (nN s.1.1)).1) (gd (bf (nN (nth aH v0.1.1 (nN s.1.1)).1) (len v3.1.2.2.1)) (br (ck (zN (len (nth [] v3.1.2.2.1 (nN (nth aH v0.1.1 (nN s.1.1)).1)))) s.2.2.2.1.1.1) (some ((false,()),(v1.2.2.2.2.1,(v1.2.2.2.2.2.1,(v1.2.2.2.2.2.2.1,(v1.2.2.2.2.2.2.2.1,(v1.2.2.2.2.2.2.2.2.1,(v2.2.2.2.2.2.2.1,v1.2.2.2.2.2.2.2.2.2)))))))) (gd (bc (nth aH v0.1.1 (nN s.1.1)).1) (gd (bf (nN (nth aH v0.1.1 (nN s.1.1)).1) (len v3.1.2.2.1)) (br (ae (nth aH v0.1.1 (nN s.1.1)).1 0) (gd (bc s.2.2.2.1.1.1) (gd (bf (nN s.2.2.2.1.1.1) (len (nth [] v3.1.2.2.1 (nN (nth aH v0.1.1 (nN s.1.1)).1)))) (br (aw (aX (ae (nth aH v0.1.1 (nN s.1.1)).2.1.1 (nth (0,(0,(0,(0,(0,(0,0)))))) (nth [] v3.1.2.2.1 (nN (nth aH v0.1.1 (nN s.1.1)).1)) (nN s.2.2.2.1.1.1)).1) (aX (ae (nth aH v0.1.1 (nN s.1.1)).2.1.2.1 (nth (0,(0,(0,(0,(0,(0,0)))))) (nth [] v3.1.2.2.1 (nN (nth aH v0.1.1 (nN s.1.1)).1)) (nN s.2.2.2.1.1.1)).2.1) (aX (ae (nth aH v0.1.1 (nN s.1.1)).2.1.2.2.1 (nth (0,(0,(0,(0,(0,(0,0)))))) (nth [] v3.1.2.2.1 (nN (nth aH v0.1.1 (nN s.1.1)).1)) (nN s.2.2.2.1.1.1)).2.2.1) (aX (ae (nth aH v0.1.1 (nN s.1.1)).2.1.2.2.2.1 (nth (0,(0,(0,(0,(0,(0,0)))))) (nth [] v3.1.2.2.1 (nN (nth aH v0.1.1 (nN s.1.1)).1)) (nN s.2.2.2.1.1.1)).2.2.2.1) (aX (ae (nth aH v0.1.1 (nN s.1.1)).2.1.2.2.2.2.1 (nth (0,(0,(0,(0,(0,(0,0)))))) (nth [] v3.1.2.2.1 (nN (nth aH v0.1.1 (nN s.1.1)).1)) (nN s.2.2.2.1.1.1)).2.2.2.2.1) (aX (ae (nth aH v0.1.1 (nN s.1.1)).2.1.2.2.2.2.2.1 (nth (0,(0,(0,(0,(0,(0,0)))))) (nth [] v3.1.2.2.1 (nN (nth aH v0.1.1 (nN s.1.1)).1)) (nN s.2.2.2.1.1.1)).2.2.2.2.2.1) (aX (ae (nth aH v0.1.1 (nN s.1.1)).2.1.2.2.2.2.2.2 (nth (0,(0,(0,(0,(0,(0,0)))))) (nth [] v3.1.2.2.1 (nN (nth aH v0.1.1 (nN s.1.1)).1)) (nN s.2.2.2.1.1.1)).2.2.2.2.2.2) true)))))))) (some ((false,()),(v1.2.2.2.2.1,(v1.2.2.2.2.2.1,(v1.2.2.2.2.2.2.1,(v1.2.2.2.2.2.2.2.1,(v1.2.2.2.2.2.2.2.2.1,(v2.2.2.2.2.2.2.1,v1.2.2.2.2.2.2.2.2.2)))))))) (k0 ((),((),((),((),())))))))) (br (ae (nth aH v0.1.1 (nN s.1.1)).1 1) (gd (bc s.2.2.2.1.1.2.1) (gd (bf (nN s.2.2.2.1.1.2.1) (len (nth [] v3.1.2.2.1 (nN (nth aH v0.1.1 (nN s.1.1)).1)))) (br (aw (aX (ae (nth aH v0.1.1 (nN s.1.1)).2.1.1 (nth (0,(0,(0,(0,(0,(0,0)))))) (nth [] v3.1.2.2.1 (nN (nth aH v0.1.1 (nN s.1.1)).1)) (nN s.2.2.2.1.1.2.1)).1) (aX (ae (nth aH v0.1.1 (nN s.1.1)).2.1.2.1 (nth (0,(0,(0,(0,(0,(0,0)))))) (nth [] v3.1.2.2.1 (nN (nth aH v0.1.1 (nN s.1.1)).1)) (nN s.2.2.2.1.1.2.1)).2.1) (aX (ae (nth aH v0.1.1 (nN s.1.1)).2.1.2.2.1 (nth (0,(0,(0,(0,(0,(0,0)))))) (nth [] v3.1.2.2.1 (nN (nth aH v0.1.1 (nN s.1.1)).1)) (nN s.2.2.2.1.1.2.1)).2.2.1) (aX (ae (nth aH v0.1.1 (nN s.1.1)).2.1.2.2.2.1 (nth (0,(0,(0,(0,(0,(0,0)))))) (nth [] v3.1.2.2.1 (nN (nth aH v0.1.1 (nN s.1.1)).1)) (nN s.2.2.2.1.1.2.1)).2.2.2.1) (aX (ae (nth aH v0.1.1 (nN s.1.1)).2.1.2.2.2.2.1 (nth (0,(0,(0,(0,(0,(0,0)))))) (nth [] v3.1.2.2.1 (nN (nth aH v0.1.1 (nN s.1.1)).1)) (nN s.2.2.2.1.1.2.1)).2.2.2.2.1) (aX (ae (nth aH v0.1.1 (nN s.1.1)).2.1.2.2.2.2.2.1 (nth (0,(0,(0,(0,(0,(0,0)))))) (nth [] v3.1.2.2.1 (nN (nth aH v0.1.1 (nN s.1.1)).1)) (nN s.2.2.2.1.1.2.1)).2.2.2.2.2.1) (aX (ae (nth aH v0.1.1 (nN s.1.1)).2.1.2.2.2.2.2.2 (nth (0,(0,(0,(0,(0,(0,0)))))) (nth [] v3.1.2.2.1 (nN (nth aH v0.1.1 (nN s.1.1)).1)) (nN s.2.2.2.1.1.2.1)).2.2.2.2.2.2) true)))))))) (some ((false,()),(v1.2.2.2.2.1,(v1.2.2.2.2.2.1,(v1.2.2.2.2.2.2.1,(v1.2.2.2.2.2.2.2.1,(v1.2.2.2.2.2.2.2.2.1,(v2.2.2.2.2.2.2.1,v1.2.2.2.2.2.2.2.2.2)))))))) (k0 ((),((),((),((),())))))))) (br (ae (nth aH v0.1.1 (nN s.1.1)).1 2) (gd (bc s.2.2.2.1.1.2.2.1) (gd (bf (nN s.2.2.2.1.1.2.2.1) (len (nth [] v3.1.2.2.1 (nN (nth aH v0.1.1 (nN s.1.1)).1)))) (br (aw (aX (ae (nth aH v0.1.1 (nN s.1.1)).2.1.1 (nth (0,(0,(0,(0,(0,(0,0)))))) (nth [] v3.1.2.2.1 (nN (nth aH v0.1.1 (nN s.1.1)).1)) (nN s.2.2.2.1.1.2.2.1)).1) (aX (ae (nth aH v0.1.1 (nN s.1.1)).2.1.2.1 (nth (0,(0,(0,(0,(0,(0,0)))))) (nth [] v3.1.2.2.1 (nN (nth aH v0.1.1 (nN s.1.1)).1)) (nN s.2.2.2.1.1.2.2.1)).2.1) (aX (ae (nth aH v0.1.1 (nN s.1.1)).2.1.2.2.1 (nth (0,(0,(0,(0,(0,(0,0)))))) (nth [] v3.1.2.2.1 (nN (nth aH v0.1.1 (nN s.1.1)).1)) (nN s.2.2.2.1.1.2.2.1)).2.2.1) (aX (ae (nth aH v0.1.1 (nN s.1.1)).2.1.2.2.2.1 (nth (0,(0,(0,(0,(0,(0,0)))))) (nth [] v3.1.2.2.1 (nN (nth aH v0.1.1 (nN s.1.1)).1)) (nN s.2.2.2.1.1.2.2.1)).2.2.2.1) (aX (ae (nth aH v0.1.1 (nN s.1.1)).2.1.2.2.2.2.1 (nth (0,(0,(0,(0,(0,(0,0)))))) (nth [] v3.1.2.2.1 (nN (nth aH v0.1.1 (nN s.1.1)).1)) (nN s.2.2.2.1.1.2.2.1)).2.2.2.2.1) (aX (ae (nth aH v0.1.1 (nN s.1.1)).2.1.2.2.2.2.2.1 (nth (0,(0,(0,(0,(0,(0,0)))))) (nth [] v3.1.2.2.1 (nN (nth aH v0.1.1 (nN s.1.1)).1)) (nN s.2.2.2.1.1.2.2.1)).2.2.2.2.2.1) (aX (ae (nth aH v0.1.1 (nN s.1.1)).2.1.2.2.2.2.2.2 (nth (0,(0,(0,(0,(0,(0,0)))))) (nth [] v3.1.2.2.1 (nN (nth aH v0.1.1 (nN s.1.1)).1)) (nN s.2.2.2.1.1.2.2.1)).2.2.2.2.2.2) true)))))))) (some ((false,()),(v1.2.2.2.2.1,(v1.2.2.2.2.2.1,(v1.2.2.2.2.2.2.1,(v1.2.2.2.2.2.2.2.1,(v1.2.2.2.2.2.2.2.2.1,(v2.2.2.2.2.2.2.1,v1.2.2.2.2.2.2.2.2.2)))))))) (k0 ((),((),((),((),())))))))) (br (ae (nth aH v0.1.1 (nN s.1.1)).1 3) (gd (bc s.2.2.2.1.1.2.2.2.1) (gd (bf (nN s.2.2.2.1.1.2.2.2.1) (len (nth [] v3.1.2.2.1 (nN (nth aH v0.1.1 (nN s.1.1)).1)))) (br (aw (aX (ae (nth aH v0.1.1 (nN s.1.1)).2.1.1 (nth (0,(0,(0,(0,(0,(0,0)))))) (nth [] v3.1.2.2.1 (nN (nth aH v0.1.1 (nN s.1.1)).1)) (nN s.2.2.2.1.1.2.2.2.1)).1) (aX (ae (nth aH v0.1.1 (nN s.1.1)).2.1.2.1 (nth (0,(0,(0,(0,(0,(0,0)))))) (nth [] v3.1.2.2.1 (nN (nth aH v0.1.1 (nN s.1.1)).1)) (nN s.2.2.2.1.1.2.2.2.1)).2.1) (aX (ae (nth aH v0.1.1 (nN s.1.1)).2.1.2.2.1 (nth (0,(0,(0,(0,(0,(0,0)))))) (nth [] v3.1.2.2.1 (nN (nth aH v0.1.1 (nN s.1.1)).1)) (nN s.2.2.2.1.1.2.2.2.1)).2.2.1) (aX (ae (nth aH v0.1.1 (nN s.1.1)).2.1.2.2.2.1 (nth (0,(0,(0,(0,(0,(0,0)))))) (nth [] v3.1.2.2.1 (nN (nth aH v0.1.1 (nN s.1.1)).1)) (nN s.2.2.2.1.1.2.2.2.1)).2.2.2.1) (aX (ae (nth aH v0.1.1 (nN s.1.1)).2.1.2.2.2.2.1 (nth (0,(0,(0,(0,(0,(0,0)))))) (nth [] v3.1.2.2.1 (nN (nth aH v0.1.1 (nN s.1.1)).1)) (nN s.2.2.2.1.1.2.2.2.1)).2.2.2.2.1) (aX (ae (nth aH v0.1.1 (nN s.1.1)).2.1.2.2.2.2.2.1 (nth (0,(0,(0,(0,(0,(0,0)))))) (nth [] v3.1.2.2.1 (nN (nth aH v0.1.1 (nN s.1.1)).1)) (nN s.2.2.2.1.1.2.2.2.1)).2.2.2.2.2.1) (aX (ae (nth aH v0.1.1 (nN s.1.1)).2.1.2.2.2.2.2.2 (nth (0,(0,(0,(0,(0,(0,0)))))) (nth [] v3.1.2.2.1 (nN (nth aH v0.1.1 (nN s.1.1)).1)) (nN s.2.2.2.1.1.2.2.2.1)).2.2.2.2.2.2) true)))))))) (some ((false,()),(v1.2.2.2.2.1,(v1.2.2.2.2.2.1,(v1.2.2.2.2.2.2.1,(v1.2.2.2.2.2.2.2.1,(v1.2.2.2.2.2.2.2.2.1,(v2.2.2.2.2.2.2.1,v1.2.2.2.2.2.2.2.2.2)))))))) (k0 ((),((),((),((),())))))))) none))))))))) (br (ae (nth aH v0.1.1 (nN s.1.1)).1 1) (gd (bc (nth aH v0.1.1 (nN s.1.1)).1) (gd (bf (nN (nth aH v0.1.1 (nN s.1.1)).1) (len v3.1.2.2.1)) (br (ck (zN (len (nth [] v3.1.2.2.1 (nN (nth aH v0.1.1 (nN s.1.1)).1)))) s.2.2.2.1.1.2.1) (some ((false,()),(v1.2.2.2.2.1,(v1.2.2.2.2.2.1,(v1.2.2.2.2.2.2.1,(v1.2.2.2.2.2.2.2.1,(v1.2.2.2.2.2.2.2.2.1,(v2.2.2.2.2.2.2.1,v1.2.2.2.2.2.2.2.2.2)))))))) (gd (bc (nth aH v0.1.1 (nN s.1.1)).1) (gd (bf (nN (nth aH v0.1.1 (nN s.1.1)).1) (len v3.1.2.2.1)) (br (ae (nth aH v0.1.1 (nN s.1.1)).1 0) (gd (bc s.2.2.2.1.1.1) (gd (bf (nN s.2.2.2.1.1.1) (len (nth [] v3.1.2.2.1 (nN (nth aH v0.1.1 (nN s.1.1)).1)))) (br (aw (aX (ae (nth aH v0.1.1 (nN s.1.1)).2.1.1 (nth (0,(0,(0,(0,(0,(0,0)))))) (nth [] v3.1.2.2.1 (nN (nth aH v0.1.1 (nN s.1.1)).1)) (nN s.2.2.2.1.1.1)).1) (aX (ae (nth aH v0.1.1 (nN s.1.1)).2.1.2.1 (nth (0,(0,(0,(0,(0,(0,0)))))) (nth [] v3.1.2.2.1 (nN (nth aH v0.1.1 (nN s.1.1)).1)) (nN s.2.2.2.1.1.1)).2.1) (aX (ae (nth aH v0.1.1 (nN s.1.1)).2.1.2.2.1 (nth (0,(0,(0,(0,(0,(0,0)))))) (nth [] v3.1.2.2.1 (nN (nth aH v0.1.1 (nN s.1.1)).1)) (nN s.2.2.2.1.1.1)).2.2.1) (aX (ae (nth aH v0.1.1 (nN s.1.1)).2.1.2.2.2.1 (nth (0,(0,(0,(0,(0,(0,0)))))) (nth [] v3.1.2.2.1 (nN (nth aH v0.1.1 (nN s.1.1)).1)) (nN s.2.2.2.1.1.1)).2.2.2.1) (aX (ae (nth aH v0.1.1 (nN s.1.1)).2.1.2.2.2.2.1 (nth (0,(0,(0,(0,(0,(0,0)))))) (nth [] v3.1.2.2.1 (nN (nth aH v0.1.1 (nN s.1.1)).1)) (nN s.2.2.2.1.1.1)).2.2.2.2.1) (aX (ae (nth aH v0.1.1 (nN s.1.1)).2.1.2.2.2.2.2.1 (nth (0,(0,(0,(0,(0,(0,0)))))) (nth [] v3.1.2.2.1 (nN (nth aH v0.1.1 (nN s.1.1)).1)) (nN s.2.2.2.1.1.1)).2.2.2.2.2.1) (aX (ae (nth aH v0.1.1 (nN s.1.1)).2.1.2.2.2.2.2.2 (nth (0,(0,(0,(0,(0,(0,0)))))) (nth [] v3.1.2.2.1 (nN (nth aH v0.1.1 (nN s.1.1)).1)) (nN s.2.2.2.1.1.1)).2.2.2.2.2.2) true)))))))) (some ((false,()),(v1.2.2.2.2.1,(v1.2.2.2.2.2.1,(v1.2.2.2.2.2.2.1,(v1.2.2.2.2.2.2.2.1,(v1.2.2.2.2.2.2.2.2.1,(v2.2.2.2.2.2.2.1,v1.2.2.2.2.2.2.2.2.2)))))))) (k0 ((),((),((),((),())))))))) (br (ae (nth aH v0.1.1 (nN s.1.1)).1 1) (gd (bc s.2.2.2.1.1.2.1) (gd (bf (nN s.2.2.2.1.1.2.1) (len (nth [] v3.1.2.2.1 (nN (nth aH v0.1.1 (nN s.1.1)).1)))) (br (aw (aX (ae (nth aH v0.1.1 (nN s.1.1)).2.1.1 (nth (0,(0,(0,(0,(0,(0,0)))))) (nth [] v3.1.2.2.1 (nN (nth aH v0.1.1 (nN s.1.1)).1)) (nN s.2.2.2.1.1.2.1)).1) (aX (ae (nth aH v0.1.1 (nN s.1.1)).2.1.2.1 (nth (0,(0,(0,(0,(0,(0,0)))))) (nth [] v3.1.2.2.1 (nN (nth aH v0.1.1 (nN s.1.1)).1)) (nN s.2.2.2.1.1.2.1)).2.1) (aX (ae (nth aH v0.1.1 (nN s.1.1)).2.1.2.2.1 (nth (0,(0,(0,(0,(0,(0,0)))))) (nth [] v3.1.2.2.1 (nN (nth aH v0.1.1 (nN s.1.1)).1)) (nN s.2.2.2.1.1.2.1)).2.2.1) (aX (ae (nth aH v0.1.1 (nN s.1.1)).2.1.2.2.2.1 (nth (0,(0,(0,(0,(0,(0,0)))))) (nth [] v3.1.2.2.1 (nN (nth aH v0.1.1 (nN s.1.1)).1)) (nN s.2.2.2.1.1.2.1)).2.2.2.1) (aX (ae (nth aH v0.1.1 (nN s.1.1)).2.1.2.2.2.2.1 (nth (0,(0,(0,(0,(0,(0,0)))))) (nth [] v3.1.2.2.1 (nN (nth aH v0.1.1 (nN s.1.1)).1)) (nN s.2.2.2.1.1.2.1)).2.2.2.2.1) (aX (ae (nth aH v0.1.1 (nN s.1.1)).2.1.2.2.2.2.2.1 (nth (0,(0,(0,(0,(0,(0,0)))))) (nth [] v3.1.2.2.1 (nN (nth aH v0.1.1 (nN s.1.1)).1)) (nN s.2.2.2.1.1.2.1)).2.2.2.2.2.1) (aX (ae (nth aH v0.1.1 (nN s.1.1)).2.1.2.2.2.2.2.2 (nth (0,(0,(0,(0,(0,(0,0)))))) (nth [] v3.1.2.2.1 (nN (nth aH v0.1.1 (nN s.1.1)).1)) (nN s.2.2.2.1.1.2.1)).2.2.2.2.2.2) true)))))))) (some ((false,()),(v1.2.2.2.2.1,(v1.2.2.2.2.2.1,(v1.2.2.2.2.2.2.1,(v1.2.2.2.2.2.2.2.1,(v1.2.2.2.2.2.2.2.2.1,(v2.2.2.2.2.2.2.1,v1.2.2.2.2.2.2.2.2.2)))))))) (k0 ((),((),((),((),())))))))) (br (ae (nth aH v0.1.1 (nN s.1.1)).1 2) (gd (bc s.2.2.2.1.1.2.2.1) (gd (bf (nN s.2.2.2.1.1.2.2.1) (len (nth [] v3.1.2.2.1 (nN (nth aH v0.1.1 (nN s.1.1)).1)))) (br (aw (aX (ae (nth aH v0.1.1 (nN s.1.1)).2.1.1 (nth (0,(0,(0,(0,(0,(0,0)))))) (nth [] v3.1.2.2.1 (nN (nth aH v0.1.1 (nN s.1.1)).1)) (nN s.2.2.2.1.1.2.2.1)).1) (aX (ae (nth aH v0.1.1 (nN s.1.1)).2.1.2.1 (nth (0,(0,(0,(0,(0,(0,0)))))) (nth [] v3.1.2.2.1 (nN (nth aH v0.1.1 (nN s.1.1)).1)) (nN s.2.2.2.1.1.2.2.1)).2.1) (aX (ae (nth aH v0.1.1 (nN s.1.1)).2.1.2.2.1 (nth (0,(0,(0,(0,(0,(0,0)))))) (nth [] v3.1.2.2.1 (nN (nth aH v0.1.1 (nN s.1.1)).1)) (nN s.2.2.2.1.1.2.2.1)).2.2.1) (aX (ae (nth aH v0.1.1 (nN s.1.1)).2.1.2.2.2.1 (nth (0,(0,(0,(0,(0,(0,0)))))) (nth [] v3.1.2.2.1 (nN (nth aH v0.1.1 (nN s.1.1)).1)) (nN s.2.2.2.1.1.2.2.1)).2.2.2.1) (aX (ae (nth aH v0.1.1 (nN s.1.1)).2.1.2.2.2.2.1 (nth (0,(0,(0,(0,(0,(0,0)))))) (nth [] v3.1.2.2.1 (nN (nth aH v0.1.1 (nN s.1.1)).1)) (nN s.2.2.2.1.1.2.2.1)).2.2.2.2.1) (aX (ae (nth aH v0.1.1 (nN s.1.1)).2.1.2.2.2.2.2.1 (nth (0,(0,(0,(0,(0,(0,0)))))) (nth [] v3.1.2.2.1 (nN (nth aH v0.1.1 (nN s.1.1)).1)) (nN s.2.2.2.1.1.2.2.1)).2.2.2.2.2.1) (aX (ae (nth aH v0.1.1 (nN s.1.1)).2.1.2.2.2.2.2.2 (nth (0,(0,(0,(0,(0,(0,0)))))) (nth [] v3.1.2.2.1 (nN (nth aH v0.1.1 (nN s.1.1)).1)) (nN s.2.2.2.1.1.2.2.1)).2.2.2.2.2.2) true)))))))) (some ((false,()),(v1.2.2.2.2.1,(v1.2.2.2.2.2.1,(v1.2.2.2.2.2.2.1,(v1.2.2.2.2.2.2.2.1,(v1.2.2.2.2.2.2.2.2.1,(v2.2.2.2.2.2.2.1,v1.2.2.2.2.2.2.2.2.2)))))))) (k0 ((),((),((),((),())))))))) (br (ae (nth aH v0.1.1 (nN s.1.1)).1 3) (gd (bc s.2.2.2.1.1.2.2.2.1) (gd (bf (nN s.2.2.2.1.1.2.2.2.1) (len (nth [] v3.1.2.2.1 (nN (nth aH v0.1.1 (nN s.1.1)).1)))) (br (aw (aX (ae (nth aH v0.1.1 (nN s.1.1)).2.1.1 (nth (0,(0,(0,(0,(0,(0,0)))))) (nth [] v3.1.2.2.1 (nN (nth aH v0.1.1 (nN s.1.1)).1)) (nN s.2.2.2.1.1.2.2.2.1)).1) (aX (ae (nth aH v0.1.1 (nN s.1.1)).2.1.2.1 (nth (0,(0,(0,(0,(0,(0,0)))))) (nth [] v3.1.2.2.1 (nN (nth aH v0.1.1 (nN s.1.1)).1)) (nN s.2.2.2.1.1.2.2.2.1)).2.1) (aX (ae (nth aH v0.1.1 (nN s.1.1)).2.1.2.2.1 (nth (0,(0,(0,(0,(0,(0,0)))))) (nth [] v3.1.2.2.1 (nN (nth aH v0.1.1 (nN s.1.1)).1)) (nN s.2.2.2.1.1.2.2.2.1)).2.2.1) (aX (ae (nth aH v0.1.1 (nN s.1.1)).2.1.2.2.2.1 (nth (0,(0,(0,(0,(0,(0,0)))))) (nth [] v3.1.2.2.1 (nN (nth aH v0.1.1 (nN s.1.1)).1)) (nN s.2.2.2.1.1.2.2.2.1)).2.2.2.1) (aX (ae (nth aH v0.1.1 (nN s.1.1)).2.1.2.2.2.2.1 (nth (0,(0,(0,(0,(0,(0,0)))))) (nth [] v3.1.2.2.1 (nN (nth aH v0.1.1 (nN s.1.1)).1)) (nN s.2.2.2.1.1.2.2.2.1)).2.2.2.2.1) (aX (ae (nth aH v0.1.1 (nN s.1.1)).2.1.2.2.2.2.2.1 (nth (0,(0,(0,(0,(0,(0,0)))))) (nth [] v3.1.2.2.1 (nN (nth aH v0.1.1 (nN s.1.1)).1)) (nN s.2.2.2.1.1.2.2.2.1)).2.2.2.2.2.1) (aX (ae (nth aH v0.1.1 (nN s.1.1)).2.1.2.2.2.2.2.2 (nth (0,(0,(0,(0,(0,(0,0)))))) (nth [] v3.1.2.2.1 (nN (nth aH v0.1.1 (nN s.1.1)).1)) (nN s.2.2.2.1.1.2.2.2.1)).2.2.2.2.2.2) true)))))))) (some ((false,()),(v1.2.2.2.2.1,(v1.2.2.2.2.2.1,(v1.2.2.2.2.2.2.1,(v1.2.2.2.2.2.2.2.1,(v1.2.2.2.2.2.2.2.2.1,(v2.2.2.2.2.2.2.1,v1.2.2.2.2.2.2.2.2.2)))))))) (k0 ((),((),((),((),())))))))) none))))))))) (br (ae (nth aH v0.1.1 (nN s.1.1)).1 2) (gd (bc (nth aH v0.1.1 (nN s.1.1)).1) (gd (bf (nN (nth aH v0.1.1 (nN s.1.1)).1) (len v3.1.2.2.1)) (br (ck (zN (len (nth [] v3.1.2.2.1 (nN (nth aH v0.1.1 (nN s.1.1)).1)))) s.2.2.2.1.1.2.2.1) (some ((false,()),(v1.2.2.2.2.1,(v1.2.2.2.2.2.1,(v1.2.2.2.2.2.2.1,(v1.2.2.2.2.2.2.2.1,(v1.2.2.2.2.2.2.2.2.1,(v2.2.2.2.2.2.2.1,v1.2.2.2.2.2.2.2.2.2)))))))) (gd (bc (nth aH v0.1.1 (nN s.1.1)).1) (gd (bf (nN (nth aH v0.1.1 (nN s.1.1)).1) (len v3.1.2.2.1)) (br (ae (nth aH v0.1.1 (nN s.1.1)).1 0) (gd (bc s.2.2.2.1.1.1) (gd (bf (nN s.2.2.2.1.1.1) (len (nth [] v3.1.2.2.1 (nN (nth aH v0.1.1 (nN s.1.1)).1)))) (br (aw (aX (ae (nth aH v0.1.1 (nN s.1.1)).2.1.1 (nth (0,(0,(0,(0,(0,(0,0)))))) (nth [] v3.1.2.2.1 (nN (nth aH v0.1.1 (nN s.1.1)).1)) (nN s.2.2.2.1.1.1)).1) (aX (ae (nth aH v0.1.1 (nN s.1.1)).2.1.2.1 (nth (0,(0,(0,(0,(0,(0,0)))))) (nth [] v3.1.2.2.1 (nN (nth aH v0.1.1 (nN s.1.1)).1)) (nN s.2.2.2.1.1.1)).2.1) (aX (ae (nth aH v0.1.1 (nN s.1.1)).2.1.2.2.1 (nth (0,(0,(0,(0,(0,(0,0)))))) (nth [] v3.1.2.2.1 (nN (nth aH v0.1.1 (nN s.1.1)).1)) (nN s.2.2.2.1.1.1)).2.2.1) (aX (ae (nth aH v0.1.1 (nN s.1.1)).2.1.2.2.2.1 (nth (0,(0,(0,(0,(0,(0,0)))))) (nth [] v3.1.2.2.1 (nN (nth aH v0.1.1 (nN s.1.1)).1)) (nN s.2.2.2.1.1.1)).2.2.2.1) (aX (ae (nth aH v0.1.1 (nN s.1.1)).2.1.2.2.2.2.1 (nth (0,(0,(0,(0,(0,(0,0)))))) (nth [] v3.1.2.2.1 (nN (nth aH v0.1.1 (nN s.1.1)).1)) (nN s.2.2.2.1.1.1)).2.2.2.2.1) (aX (ae (nth aH v0.1.1 (nN s.1.1)).2.1.2.2.2.2.2.1 (nth (0,(0,(0,(0,(0,(0,0)))))) (nth [] v3.1.2.2.1 (nN (nth aH v0.1.1 (nN s.1.1)).1)) (nN s.2.2.2.1.1.1)).2.2.2.2.2.1) (aX (ae (nth aH v0.1.1 (nN s.1.1)).2.1.2.2.2.2.2.2 (nth (0,(0,(0,(0,(0,(0,0)))))) (nth [] v3.1.2.2.1 (nN (nth aH v0.1.1 (nN s.1.1)).1)) (nN s.2.2.2.1.1.1)).2.2.2.2.2.2) true)))))))) (some ((false,()),(v1.2.2.2.2.1,(v1.2.2.2.2.2.1,(v1.2.2.2.2.2.2.1,(v1.2.2.2.2.2.2.2.1,(v1.2.2.2.2.2.2.2.2.1,(v2.2.2.2.2.2.2.1,v1.2.2.2.2.2.2.2.2.2)))))))) (k0 ((),((),((),((),())))))))) (br (ae (nth aH v0.1.1 (nN s.1.1)).1 1) (gd (bc s.2.2.2.1.1.2.1) (gd (bf (nN s.2.2.2.1.1.2.1) (len (nth [] v3.1.2.2.1 (nN (nth aH v0.1.1 (nN s.1.1)).1)))) (br (aw (aX (ae (nth aH v0.1.1 (nN s.1.1)).2.1.1 (nth (0,(0,(0,(0,(0,(0,0)))))) (nth [] v3.1.2.2.1 (nN (nth aH v0.1.1 (nN s.1.1)).1)) (nN s.2.2.2.1.1.2.1)).1) (aX (ae (nth aH v0.1.1 (nN s.1.1)).2.1.2.1 (nth (0,(0,(0,(0,(0,(0,0)))))) (nth [] v3.1.2.2.1 (nN (nth aH v0.1.1 (nN s.1.1)).1)) (nN s.2.2.2.1.1.2.1)).2.1) (aX (ae (nth aH v0.1.1 (nN s.1.1)).2.1.2.2.1 (nth (0,(0,(0,(0,(0,(0,0)))))) (nth [] v3.1.2.2.1 (nN (nth aH v0.1.1 (nN s.1.1)).1)) (nN s.2.2.2.1.1.2.1)).2.2.1) (aX (ae (nth aH v0.1.1 (nN s.1.1)).2.1.2.2.2.1 (nth (0,(0,(0,(0,(0,(0,0)))))) (nth [] v3.1.2.2.1 (nN (nth aH v0.1.1 (nN s.1.1)).1)) (nN s.2.2.2.1.1.2.1)).2.2.2.1) (aX (ae (nth aH v0.1.1 (nN s.1.1)).2.1.2.2.2.2.1 (nth (0,(0,(0,(0,(0,(0,0)))))) (nth [] v3.1.2.2.1 (nN (nth aH v0.1.1 (nN s.1.1)).1)) (nN s.2.2.2.1.1.2.1)).2.2.2.2.1) (aX (ae (nth aH v0.1.1 (nN s.1.1)).2.1.2.2.2.2.2.1 (nth (0,(0,(0,(0,(0,(0,0)))))) (nth [] v3.1.2.2.1 (nN (nth aH v0.1.1 (nN s.1.1)).1)) (nN s.2.2.2.1.1.2.1)).2.2.2.2.2.1) (aX (ae (nth aH v0.1.1 (nN s.1.1)).2.1.2.2.2.2.2.2 (nth (0,(0,(0,(0,(0,(0,0)))))) (nth [] v3.1.2.2.1 (nN (nth aH v0.1.1 (nN s.1.1)).1)) (nN s.2.2.2.1.1.2.1)).2.2.2.2.2.2) true)))))))) (some ((false,()),(v1.2.2.2.2.1,(v1.2.2.2.2.2.1,(v1.2.2.2.2.2.2.1,(v1.2.2.2.2.2.2.2.1,(v1.2.2.2.2.2.2.2.2.1,(v2.2.2.2.2.2.2.1,v1.2.2.2.2.2.2.2.2.2)))))))) (k0 ((),((),((),((),())))))))) (br (ae (nth aH v0.1.1 (nN s.1.1)).1 2) (gd (bc s.2.2.2.1.1.2.2.1) (gd (bf (nN s.2.2.2.1.1.2.2.1) (len (nth [] v3.1.2.2.1 (nN (nth aH v0.1.1 (nN s.1.1)).1)))) (br (aw (aX (ae (nth aH v0.1.1 (nN s.1.1)).2.1.1 (nth (0,(0,(0,(0,(0,(0,0)))))) (nth [] v3.1.2.2.1 (nN (nth aH v0.1.1 (nN s.1.1)).1)) (nN s.2.2.2.1.1.2.2.1)).1) (aX (ae (nth aH v0.1.1 (nN s.1.1)).2.1.2.1 (nth (0,(0,(0,(0,(0,(0,0)))))) (nth [] v3.1.2.2.1 (nN (nth aH v0.1.1 (nN s.1.1)).1)) (nN s.2.2.2.1.1.2.2.1)).2.1) (aX (ae (nth aH v0.1.1 (nN s.1.1)).2.1.2.2.1 (nth (0,(0,(0,(0,(0,(0,0)))))) (nth [] v3.1.2.2.1 (nN (nth aH v0.1.1 (nN s.1.1)).1)) (nN s.2.2.2.1.1.2.2.1)).2.2.1) (aX (ae (nth aH v0.1.1 (nN s.1.1)).2.1.2.2.2.1 (nth (0,(0,(0,(0,(0,(0,0)))))) (nth [] v3.1.2.2.1 (nN (nth aH v0.1.1 (nN s.1.1)).1)) (nN s.2.2.2.1.1.2.2.1)).2.2.2.1) (aX (ae (nth aH v0.1.1 (nN s.1.1)).2.1.2.2.2.2.1 (nth (0,(0,(0,(0,(0,(0,0)))))) (nth [] v3.1.2.2.1 (nN (nth aH v0.1.1 (nN s.1.1)).1)) (nN s.2.2.2.1.1.2.2.1)).2.2.2.2.1) (aX (ae (nth aH v0.1.1 (nN s.1.1)).2.1.2.2.2.2.2.1 (nth (0,(0,(0,(0,(0,(0,0)))))) (nth [] v3.1.2.2.1 (nN (nth aH v0.1.1 (nN s.1.1)).1)) (nN s.2.2.2.1.1.2.2.1)).2.2.2.2.2.1) (aX (ae (nth aH v0.1.1 (nN s.1.1)).2.1.2.2.2.2.2.2 (nth (0,(0,(0,(0,(0,(0,0)))))) (nth [] v3.1.2.2.1 (nN (nth aH v0.1.1 (nN s.1.1)).1)) (nN s.2.2.2.1.1.2.2.1)).2.2.2.2.2.2) true)))))))) (some ((false,()),(v1.2.2.2.2.1,(v1.2.2.2.2.2.1,(v1.2.2.2.2.2.2.1,(v1.2.2.2.2.2.2.2.1,(v1.2.2.2.2.2.2.2.2.1,(v2.2.2.2.2.2.2.1,v1.2.2.2.2.2.2.2.2.2)))))))) (k0 ((),((),((),((),())))))))) (br (ae (nth aH v0.1.1 (nN s.1.1)).1 3) (gd (bc s.2.2.2.1.1.2.2.2.1) (gd (bf (nN s.2.2.2.1.1.2.2.2.1) (len (nth [] v3.1.2.2.1 (nN (nth aH v0.1.1 (nN s.1.1)).1)))) (br (aw (aX (ae (nth aH v0.1.1 (nN s.1.1)).2.1.1 (nth (0,(0,(0,(0,(0,(0,0)))))) (nth [] v3.1.2.2.1 (nN (nth aH v0.1.1 (nN s.1.1)).1)) (nN s.2.2.2.1.1.2.2.2.1)).1) (aX (ae (nth aH v0.1.1 (nN s.1.1)).2.1.2.1 (nth (0,(0,(0,(0,(0,(0,0)))))) (nth [] v3.1.2.2.1 (nN (nth aH v0.1.1 (nN s.1.1)).1)) (nN s.2.2.2.1.1.2.2.2.1)).2.1) (aX (ae (nth aH v0.1.1 (nN s.1.1)).2.1.2.2.1 (nth (0,(0,(0,(0,(0,(0,0)))))) (nth [] v3.1.2.2.1 (nN (nth aH v0.1.1 (nN s.1.1)).1)) (nN s.2.2.2.1.1.2.2.2.1)).2.2.1) (aX (ae (nth aH v0.1.1 (nN s.1.1)).2.1.2.2.2.1 (nth (0,(0,(0,(0,(0,(0,0)))))) (nth [] v3.1.2.2.1 (nN (nth aH v0.1.1 (nN s.1.1)).1)) (nN s.2.2.2.1.1.2.2.2.1)).2.2.2.1) (aX (ae (nth aH v0.1.1 (nN s.1.1)).2.1.2.2.2.2.1 (nth (0,(0,(0,(0,(0,(0,0)))))) (nth [] v3.1.2.2.1 (nN (nth aH v0.1.1 (nN s.1.1)).1)) (nN s.2.2.2.1.1.2.2.2.1)).2.2.2.2.1) (aX (ae (nth aH v0.1.1 (nN s.1.1)).2.1.2.2.2.2.2.1 (nth (0,(0,(0,(0,(0,(0,0)))))) (nth [] v3.1.2.2.1 (nN (nth aH v0.1.1 (nN s.1.1)).1)) (nN s.2.2.2.1.1.2.2.2.1)).2.2.2.2.2.1) (aX (ae (nth aH v0.1.1 (nN s.1.1)).2.1.2.2.2.2.2.2 (nth (0,(0,(0,(0,(0,(0,0)))))) (nth [] v3.1.2.2.1 (nN (nth aH v0.1.1 (nN s.1.1)).1)) (nN s.2.2.2.1.1.2.2.2.1)).2.2.2.2.2.2) true)))))))) (some ((false,()),(v1.2.2.2.2.1,(v1.2.2.2.2.2.1,(v1.2.2.2.2.2.2.1,(v1.2.2.2.2.2.2.2.1,(v1.2.2.2.2.2.2.2.2.1,(v2.2.2.2.2.2.2.1,v1.2.2.2.2.2.2.2.2.2)))))))) (k0 ((),((),((),((),())))))))) none))))))))) (br (ae (nth aH v0.1.1 (nN s.1.1)).1 3) (gd (bc (nth aH v0.1.1 (nN s.1.1)).1) (gd (bf (nN (nth aH v0.1.1 (nN s.1.1)).1) (len v3.1.2.2.1)) (br (ck (zN (len (nth [] v3.1.2.2.1 (nN (nth aH v0.1.1 (nN s.1.1)).1)))) s.2.2.2.1.1.2.2.2.1) (some ((false,()),(v1.2.2.2.2.1,(v1.2.2.2.2.2.1,(v1.2.2.2.2.2.2.1,(v1.2.2.2.2.2.2.2.1,(v1.2.2.2.2.2.2.2.2.1,(v2.2.2.2.2.2.2.1,v1.2.2.2.2.2.2.2.2.2)))))))) (gd (bc (nth aH v0.1.1 (nN s.1.1)).1) (gd (bf (nN (nth aH v0.1.1 (nN s.1.1)).1) (len v3.1.2.2.1)) (br (ae (nth aH v0.1.1 (nN s.1.1)).1 0) (gd (bc s.2.2.2.1.1.1) (gd (bf (nN s.2.2.2.1.1.1) (len (nth [] v3.1.2.2.1 (nN (nth aH v0.1.1 (nN s.1.1)).1)))) (br (aw (aX (ae (nth aH v0.1.1 (nN s.1.1)).2.1.1 (nth (0,(0,(0,(0,(0,(0,0)))))) (nth [] v3.1.2.2.1 (nN (nth aH v0.1.1 (nN s.1.1)).1)) (nN s.2.2.2.1.1.1)).1) (aX (ae (nth aH v0.1.1 (nN s.1.1)).2.1.2.1 (nth (0,(0,(0,(0,(0,(0,0)))))) (nth [] v3.1.2.2.1 (nN (nth aH v0.1.1 (nN s.1.1)).1)) (nN s.2.2.2.1.1.1)).2.1) (aX (ae (nth aH v0.1.1 (nN s.1.1)).2.1.2.2.1 (nth (0,(0,(0,(0,(0,(0,0)))))) (nth [] v3.1.2.2.1 (nN (nth aH v0.1.1 (nN s.1.1)).1)) (nN s.2.2.2.1.1.1)).2.2.1) (aX (ae (nth aH v0.1.1 (nN s.1.1)).2.1.2.2.2.1 (nth (0,(0,(0,(0,(0,(0,0)))))) (nth [] v3.1.2.2.1 (nN (nth aH v0.1.1 (nN s.1.1)).1)) (nN s.2.2.2.1.1.1)).2.2.2.1) (aX (ae (nth aH v0.1.1 (nN s.1.1)).2.1.2.2.2.2.1 (nth (0,(0,(0,(0,(0,(0,0)))))) (nth [] v3.1.2.2.1 (nN (nth aH v0.1.1 (nN s.1.1)).1)) (nN s.2.2.2.1.1.1)).2.2.2.2.1) (aX (ae (nth aH v0.1.1 (nN s.1.1)).2.1.2.2.2.2.2.1 (nth (0,(0,(0,(0,(0,(0,0)))))) (nth [] v3.1.2.2.1 (nN (nth aH v0.1.1 (nN s.1.1)).1)) (nN s.2.2.2.1.1.1)).2.2.2.2.2.1) (aX (ae (nth aH v0.1.1 (nN s.1.1)).2.1.2.2.2.2.2.2 (nth (0,(0,(0,(0,(0,(0,0)))))) (nth [] v3.1.2.2.1 (nN (nth aH v0.1.1 (nN s.1.1)).1)) (nN s.2.2.2.1.1.1)).2.2.2.2.2.2) true)))))))) (some ((false,()),(v1.2.2.2.2.1,(v1.2.2.2.2.2.1,(v1.2.2.2.2.2.2.1,(v1.2.2.2.2.2.2.2.1,(v1.2.2.2.2.2.2.2.2.1,(v2.2.2.2.2.2.2.1,v1.2.2.2.2.2.2.2.2.2)))))))) (k0 ((),((),((),((),())))))))) (br (ae (nth aH v0.1.1 (nN s.1.1)).1 1) (gd (bc s.2.2.2.1.1.2.1) (gd (bf (nN s.2.2.2.1.1.2.1) (len (nth [] v3.1.2.2.1 (nN (nth aH v0.1.1 (nN s.1.1)).1)))) (br (aw (aX (ae (nth aH v0.1.1 (nN s.1.1)).2.1.1 (nth (0,(0,(0,(0,(0,(0,0)))))) (nth [] v3.1.2.2.1 (nN (nth aH v0.1.1 (nN s.1.1)).1)) (nN s.2.2.2.1.1.2.1)).1) (aX (ae (nth aH v0.1.1 (nN s.1.1)).2.1.2.1 (nth (0,(0,(0,(0,(0,(0,0)))))) (nth [] v3.1.2.2.1 (nN (nth aH v0.1.1 (nN s.1.1)).1)) (nN s.2.2.2.1.1.2.1)).2.1) (aX (ae (nth aH v0.1.1 (nN s.1.1)).2.1.2.2.1 (nth (0,(0,(0,(0,(0,(0,0)))))) (nth [] v3.1.2.2.1 (nN (nth aH v0.1.1 (nN s.1.1)).1)) (nN s.2.2.2.1.1.2.1)).2.2.1) (aX (ae (nth aH v0.1.1 (nN s.1.1)).2.1.2.2.2.1 (nth (0,(0,(0,(0,(0,(0,0)))))) (nth [] v3.1.2.2.1 (nN (nth aH v0.1.1 (nN s.1.1)).1)) (nN s.2.2.2.1.1.2.1)).2.2.2.1) (aX (ae (nth aH v0.1.1 (nN s.1.1)).2.1.2.2.2.2.1 (nth (0,(0,(0,(0,(0,(0,0)))))) (nth [] v3.1.2.2.1 (nN (nth aH v0.1.1 (nN s.1.1)).1)) (nN s.2.2.2.1.1.2.1)).2.2.2.2.1) (aX (ae (nth aH v0.1.1 (nN s.1.1)).2.1.2.2.2.2.2.1 (nth (0,(0,(0,(0,(0,(0,0)))))) (nth [] v3.1.2.2.1 (nN (nth aH v0.1.1 (nN s.1.1)).1)) (nN s.2.2.2.1.1.2.1)).2.2.2.2.2.1) (aX (ae (nth aH v0.1.1 (nN s.1.1)).2.1.2.2.2.2.2.2 (nth (0,(0,(0,(0,(0,(0,0)))))) (nth [] v3.1.2.2.1 (nN (nth aH v0.1.1 (nN s.1.1)).1)) (nN s.2.2.2.1.1.2.1)).2.2.2.2.2.2) true)))))))) (some ((false,()),(v1.2.2.2.2.1,(v1.2.2.2.2.2.1,(v1.2.2.2.2.2.2.1,(v1.2.2.2.2.2.2.2.1,(v1.2.2.2.2.2.2.2.2.1,(v2.2.2.2.2.2.2.1,v1.2.2.2.2.2.2.2.2.2)))))))) (k0 ((),((),((),((),())))))))) (br (ae (nth aH v0.1.1 (nN s.1.1)).1 2) (gd (bc s.2.2.2.1.1.2.2.1) (gd (bf (nN s.2.2.2.1.1.2.2.1) (len (nth [] v3.1.2.2.1 (nN (nth aH v0.1.1 (nN s.1.1)).1)))) (br (aw (aX (ae (nth aH v0.1.1 (nN s.1.1)).2.1.1 (nth (0,(0,(0,(0,(0,(0,0)))))) (nth [] v3.1.2.2.1 (nN (nth aH v0.1.1 (nN s.1.1)).1)) (nN s.2.2.2.1.1.2.2.1)).1) (aX (ae (nth aH v0.1.1 (nN s.1.1)).2.1.2.1 (nth (0,(0,(0,(0,(0,(0,0)))))) (nth [] v3.1.2.2.1 (nN (nth aH v0.1.1 (nN s.1.1)).1)) (nN s.2.2.2.1.1.2.2.1)).2.1) (aX (ae (nth aH v0.1.1 (nN s.1.1)).2.1.2.2.1 (nth (0,(0,(0,(0,(0,(0,0)))))) (nth [] v3.1.2.2.1 (nN (nth aH v0.1.1 (nN s.1.1)).1)) (nN s.2.2.2.1.1.2.2.1)).2.2.1) (aX (ae (nth aH v0.1.1 (nN s.1.1)).2.1.2.2.2.1 (nth (0,(0,(0,(0,(0,(0,0)))))) (nth [] v3.1.2.2.1 (nN (nth aH v0.1.1 (nN s.1.1)).1)) (nN s.2.2.2.1.1.2.2.1)).2.2.2.1) (aX (ae (nth aH v0.1.1 (nN s.1.1)).2.1.2.2.2.2.1 (nth (0,(0,(0,(0,(0,(0,0)))))) (nth [] v3.1.2.2.1 (nN (nth aH v0.1.1 (nN s.1.1)).1)) (nN s.2.2.2.1.1.2.2.1)).2.2.2.2.1) (aX (ae (nth aH v0.1.1 (nN s.1.1)).2.1.2.2.2.2.2.1 (nth (0,(0,(0,(0,(0,(0,0)))))) (nth [] v3.1.2.2.1 (nN (nth aH v0.1.1 (nN s.1.1)).1)) (nN s.2.2.2.1.1.2.2.1)).2.2.2.2.2.1) (aX (ae (nth aH v0.1.1 (nN s.1.1)).2.1.2.2.2.2.2.2 (nth (0,(0,(0,(0,(0,(0,0)))))) (nth [] v3.1.2.2.1 (nN (nth aH v0.1.1 (nN s.1.1)).1)) (nN s.2.2.2.1.1.2.2.1)).2.2.2.2.2.2) true)))))))) (some ((false,()),(v1.2.2.2.2.1,(v1.2.2.2.2.2.1,(v1.2.2.2.2.2.2.1,(v1.2.2.2.2.2.2.2.1,(v1.2.2.2.2.2.2.2.2.1,(v2.2.2.2.2.2.2.1,v1.2.2.2.2.2.2.2.2.2)))))))) (k0 ((),((),((),((),())))))))) (br (ae (nth aH v0.1.1 (nN s.1.1)).1 3) (gd (bc s.2.2.2.1.1.2.2.2.1) (gd (bf (nN s.2.2.2.1.1.2.2.2.1) (len (nth [] v3.1.2.2.1 (nN (nth aH v0.1.1 (nN s.1.1)).1)))) (br (aw (aX (ae (nth aH v0.1.1 (nN s.1.1)).2.1.1 (nth (0,(0,(0,(0,(0,(0,0)))))) (nth [] v3.1.2.2.1 (nN (nth aH v0.1.1 (nN s.1.1)).1)) (nN s.2.2.2.1.1.2.2.2.1)).1) (aX (ae (nth aH v0.1.1 (nN s.1.1)).2.1.2.1 (nth (0,(0,(0,(0,(0,(0,0)))))) (nth [] v3.1.2.2.1 (nN (nth aH v0.1.1 (nN s.1.1)).1)) (nN s.2.2.2.1.1.2.2.2.1)).2.1) (aX (ae (nth aH v0.1.1 (nN s.1.1)).2.1.2.2.1 (nth (0,(0,(0,(0,(0,(0,0)))))) (nth [] v3.1.2.2.1 (nN (nth aH v0.1.1 (nN s.1.1)).1)) (nN s.2.2.2.1.1.2.2.2.1)).2.2.1) (aX (ae (nth aH v0.1.1 (nN s.1.1)).2.1.2.2.2.1 (nth (0,(0,(0,(0,(0,(0,0)))))) (nth [] v3.1.2.2.1 (nN (nth aH v0.1.1 (nN s.1.1)).1)) (nN s.2.2.2.1.1.2.2.2.1)).2.2.2.1) (aX (ae (nth aH v0.1.1 (nN s.1.1)).2.1.2.2.2.2.1 (nth (0,(0,(0,(0,(0,(0,0)))))) (nth [] v3.1.2.2.1 (nN (nth aH v0.1.1 (nN s.1.1)).1)) (nN s.2.2.2.1.1.2.2.2.1)).2.2.2.2.1) (aX (ae (nth aH v0.1.1 (nN s.1.1)).2.1.2.2.2.2.2.1 (nth (0,(0,(0,(0,(0,(0,0)))))) (nth [] v3.1.2.2.1 (nN (nth aH v0.1.1 (nN s.1.1)).1)) (nN s.2.2.2.1.1.2.2.2.1)).2.2.2.2.2.1) (aX (ae (nth aH v0.1.1 (nN s.1.1)).2.1.2.2.2.2.2.2 (nth (0,(0,(0,(0,(0,(0,0)))))) (nth [] v3.1.2.2.1 (nN (nth aH v0.1.1 (nN s.1.1)).1)) (nN s.2.2.2.1.1.2.2.2.1)).2.2.2.2.2.2) true)))))))) (some ((false,()),(v1.2.2.2.2.1,(v1.2.2.2.2.2.1,(v1.2.2.2.2.2.2.1,(v1.2.2.2.2.2.2.2.1,(v1.2.2.2.2.2.2.2.2.1,(v2.2.2.2.2.2.2.1,v1.2.2.2.2.2.2.2.2.2)))))))) (k0 ((),((),((),((),())))))))) none))))))))) none))))))) (fun (s1:(Unit×U2))=>(jn (fun (k2:E2→_)=>(br (ae (nth aH v0.1.1 (nN s.1.1)).1 0) (br (ae (nth aH v0.1.1 (nN s.1.1)).1 0) (k2 ((),((),((),((((af .i64 s.2.2.2.1.1.1 1),(s.2.2.2.1.1.2.1,(s.2.2.2.1.1.2.2.1,(s.2.2.2.1.1.2.2.2.1,())))),()),()))))) (br (ae (nth aH v0.1.1 (nN s.1.1)).1 1) (k2 ((),((),((),(((s.2.2.2.1.1.1,((af .i64 s.2.2.2.1.1.1 1),(s.2.2.2.1.1.2.2.1,(s.2.2.2.1.1.2.2.2.1,())))),()),()))))) (br (ae (nth aH v0.1.1 (nN s.1.1)).1 2) (k2 ((),((),((),(((s.2.2.2.1.1.1,(s.2.2.2.1.1.2.1,((af .i64 s.2.2.2.1.1.1 1),(s.2.2.2.1.1.2.2.2.1,())))),()),()))))) (br (ae (nth aH v0.1.1 (nN s.1.1)).1 3) (k2 ((),((),((),(((s.2.2.2.1.1.1,(s.2.2.2.1.1.2.1,(s.2.2.2.1.1.2.2.1,((af .i64 s.2.2.2.1.1.1 1),())))),()),()))))) none)))) (br (ae (nth aH v0.1.1 (nN s.1.1)).1 1) (br (ae (nth aH v0.1.1 (nN s.1.1)).1 0) (k2 ((),((),((),((((af .i64 s.2.2.2.1.1.2.1 1),(s.2.2.2.1.1.2.1,(s.2.2.2.1.1.2.2.1,(s.2.2.2.1.1.2.2.2.1,())))),()),()))))) (br (ae (nth aH v0.1.1 (nN s.1.1)).1 1) (k2 ((),((),((),(((s.2.2.2.1.1.1,((af .i64 s.2.2.2.1.1.2.1 1),(s.2.2.2.1.1.2.2.1,(s.2.2.2.1.1.2.2.2.1,())))),()),()))))) (br (ae (nth aH v0.1.1 (nN s.1.1)).1 2) (k2 ((),((),((),(((s.2.2.2.1.1.1,(s.2.2.2.1.1.2.1,((af .i64 s.2.2.2.1.1.2.1 1),(s.2.2.2.1.1.2.2.2.1,())))),()),()))))) (br (ae (nth aH v0.1.1 (nN s.1.1)).1 3) (k2 ((),((),((),(((s.2.2.2.1.1.1,(s.2.2.2.1.1.2.1,(s.2.2.2.1.1.2.2.1,((af .i64 s.2.2.2.1.1.2.1 1),())))),()),()))))) none)))) (br (ae (nth aH v0.1.1 (nN s.1.1)).1 2) (br (ae (nth aH v0.1.1 (nN s.1.1)).1 0) (k2 ((),((),((),((((af .i64 s.2.2.2.1.1.2.2.1 1),(s.2.2.2.1.1.2.1,(s.2.2.2.1.1.2.2.1,(s.2.2.2.1.1.2.2.2.1,())))),()),()))))) (br (ae (nth aH v0.1.1 (nN s.1.1)).1 1) (k2 ((),((),((),(((s.2.2.2.1.1.1,((af .i64 s.2.2.2.1.1.2.2.1 1),(s.2.2.2.1.1.2.2.1,(s.2.2.2.1.1.2.2.2.1,())))),()),()))))) (br (ae (nth aH v0.1.1 (nN s.1.1)).1 2) (k2 ((),((),((),(((s.2.2.2.1.1.1,(s.2.2.2.1.1.2.1,((af .i64 s.2.2.2.1.1.2.2.1 1),(s.2.2.2.1.1.2.2.2.1,())))),()),()))))) (br (ae (nth aH v0.1.1 (nN s.1.1)).1 3) (k2 ((),((),((),(((s.2.2.2.1.1.1,(s.2.2.2.1.1.2.1,(s.2.2.2.1.1.2.2.1,((af .i64 s.2.2.2.1.1.2.2.1 1),())))),()),()))))) none)))) (br (ae (nth aH v0.1.1 (nN s.1.1)).1 3) (br (ae (nth aH v0.1.1 (nN s.1.1)).1 0) (k2 ((),((),((),((((af .i64 s.2.2.2.1.1.2.2.2.1 1),(s.2.2.2.1.1.2.1,(s.2.2.2.1.1.2.2.1,(s.2.2.2.1.1.2.2.2.1,())))),()),()))))) (br (ae (nth aH v0.1.1 (nN s.1.1)).1 1) (k2 ((),((),((),(((s.2.2.2.1.1.1,((af .i64 s.2.2.2.1.1.2.2.2.1 1),(s.2.2.2.1.1.2.2.1,(s.2.2.2.1.1.2.2.2.1,())))),()),()))))) (br (ae (nth aH v0.1.1 (nN s.1.1)).1 2) (k2 ((),((),((),(((s.2.2.2.1.1.1,(s.2.2.2.1.1.2.1,((af .i64 s.2.2.2.1.1.2.2.2.1 1),(s.2.2.2.1.1.2.2.2.1,())))),()),()))))) (br (ae (nth aH v0.1.1 (nN s.1.1)).1 3) (k2 ((),((),((),(((s.2.2.2.1.1.1,(s.2.2.2.1.1.2.1,(s.2.2.2.1.1.2.2.1,((af .i64 s.2.2.2.1.1.2.2.2.1 1),())))),()),()))))) none)))) none))))) (fun (s3:E2)=>(jn (fun (k4:(Unit×U2)→_)=>(br (ae (nth aH v0.1.1 (nN s.1.1)).1 0) (br (ck (nth aH v0.1.1 (nN s.1.1)).2.2.1 s.2.2.2.1.2.1.1) (some ((false,()),(v1.2.2.2.2.1,(v1.2.2.2.2.2.1,(v1.2.2.2.2.2.2.1,(v1.2.2.2.2.2.2.2.1,(v1.2.2.2.2.2.2.2.2.1,(v2.2.2.2.2.2.2.1,v1.2.2.2.2.2.2.2.2.2)))))))) (br (ck (zN (len v1.2.1.1)) (nth aH v0.1.1 (nN s.1.1)).2.2.1) (some ((false,()),(v1.2.2.2.2.1,(v1.2.2.2.2.2.1,(v1.2.2.2.2.2.2.1,(v1.2.2.2.2.2.2.2.1,(v1.2.2.2.2.2.2.2.2.1,(v2.2.2.2.2.2.2.1,v1.2.2.2.2.2.2.2.2.2)))))))) (gd (bc (nth aH v0.1.1 (nN s.1.1)).2.2.1) (gd (bf (nN (nth aH v0.1.1 (nN s.1.1)).2.2.1) (len v1.2.1.1)) (br (aw (ae (nth 0 v1.2.1.1 (nN (nth aH v0.1.1 (nN s.1.1)).2.2.1)) (nth aH v0.1.1 (nN s.1.1)).1)) (some ((false,()),(v1.2.2.2.2.1,(v1.2.2.2.2.2.1,(v1.2.2.2.2.2.2.1,(v1.2.2.2.2.2.2.2.1,(v1.2.2.2.2.2.2.2.2.1,(v2.2.2.2.2.2.2.1,v1.2.2.2.2.2.2.2.2.2)))))))) (br (a_ 0 s.1.1) (gd (bc (aD .i64 s.1.1 1)) (gd (bf (nN (aD .i64 s.1.1 1)) (len v0.1.1)) (br (ck (nth aH v0.1.1 (nN s.1.1)).2.2.1 (nth aH v0.1.1 (nN (aD .i64 s.1.1 1))).2.2.1) (some ((false,()),(v1.2.2.2.2.1,(v1.2.2.2.2.2.1,(v1.2.2.2.2.2.2.1,(v1.2.2.2.2.2.2.2.1,(v1.2.2.2.2.2.2.2.2.1,(v2.2.2.2.2.2.2.1,v1.2.2.2.2.2.2.2.2.2)))))))) (k4 ((),((),((),((),())))))))) (k4 ((),((),((),((),()))))))))))) (br (ae (nth aH v0.1.1 (nN s.1.1)).1 1) (br (ck (nth aH v0.1.1 (nN s.1.1)).2.2.1 s.2.2.2.1.2.1.2.1) (some ((false,()),(v1.2.2.2.2.1,(v1.2.2.2.2.2.1,(v1.2.2.2.2.2.2.1,(v1.2.2.2.2.2.2.2.1,(v1.2.2.2.2.2.2.2.2.1,(v2.2.2.2.2.2.2.1,v1.2.2.2.2.2.2.2.2.2)))))))) (br (ck (zN (len v1.2.1.1)) (nth aH v0.1.1 (nN s.1.1)).2.2.1) (some ((false,()),(v1.2.2.2.2.1,(v1.2.2.2.2.2.1,(v1.2.2.2.2.2.2.1,(v1.2.2.2.2.2.2.2.1,(v1.2.2.2.2.2.2.2.2.1,(v2.2.2.2.2.2.2.1,v1.2.2.2.2.2.2.2.2.2)))))))) (gd (bc (nth aH v0.1.1 (nN s.1.1)).2.2.1) (gd (bf (nN (nth aH v0.1.1 (nN s.1.1)).2.2.1) (len v1.2.1.1)) (br (aw (ae (nth 0 v1.2.1.1 (nN (nth aH v0.1.1 (nN s.1.1)).2.2.1)) (nth aH v0.1.1 (nN s.1.1)).1)) (some ((false,()),(v1.2.2.2.2.1,(v1.2.2.2.2.2.1,(v1.2.2.2.2.2.2.1,(v1.2.2.2.2.2.2.2.1,(v1.2.2.2.2.2.2.2.2.1,(v2.2.2.2.2.2.2.1,v1.2.2.2.2.2.2.2.2.2)))))))) (br (a_ 0 s.1.1) (gd (bc (aD .i64 s.1.1 1)) (gd (bf (nN (aD .i64 s.1.1 1)) (len v0.1.1)) (br (ck (nth aH v0.1.1 (nN s.1.1)).2.2.1 (nth aH v0.1.1 (nN (aD .i64 s.1.1 1))).2.2.1) (some ((false,()),(v1.2.2.2.2.1,(v1.2.2.2.2.2.1,(v1.2.2.2.2.2.2.1,(v1.2.2.2.2.2.2.2.1,(v1.2.2.2.2.2.2.2.2.1,(v2.2.2.2.2.2.2.1,v1.2.2.2.2.2.2.2.2.2)))))))) (k4 ((),((),((),((),())))))))) (k4 ((),((),((),((),()))))))))))) (br (ae (nth aH v0.1.1 (nN s.1.1)).1 2) (br (ck (nth aH v0.1.1 (nN s.1.1)).2.2.1 s.2.2.2.1.2.1.2.2.1) (some ((false,()),(v1.2.2.2.2.1,(v1.2.2.2.2.2.1,(v1.2.2.2.2.2.2.1,(v1.2.2.2.2.2.2.2.1,(v1.2.2.2.2.2.2.2.2.1,(v2.2.2.2.2.2.2.1,v1.2.2.2.2.2.2.2.2.2)))))))) (br (ck (zN (len v1.2.1.1)) (nth aH v0.1.1 (nN s.1.1)).2.2.1) (some ((false,()),(v1.2.2.2.2.1,(v1.2.2.2.2.2.1,(v1.2.2.2.2.2.2.1,(v1.2.2.2.2.2.2.2.1,(v1.2.2.2.2.2.2.2.2.1,(v2.2.2.2.2.2.2.1,v1.2.2.2.2.2.2.2.2.2)))))))) (gd (bc (nth aH v0.1.1 (nN s.1.1)).2.2.1) (gd (bf (nN (nth aH v0.1.1 (nN s.1.1)).2.2.1) (len v1.2.1.1)) (br (aw (ae (nth 0 v1.2.1.1 (nN (nth aH v0.1.1 (nN s.1.1)).2.2.1)) (nth aH v0.1.1 (nN s.1.1)).1)) (some ((false,()),(v1.2.2.2.2.1,(v1.2.2.2.2.2.1,(v1.2.2.2.2.2.2.1,(v1.2.2.2.2.2.2.2.1,(v1.2.2.2.2.2.2.2.2.1,(v2.2.2.2.2.2.2.1,v1.2.2.2.2.2.2.2.2.2)))))))) (br (a_ 0 s.1.1) (gd (bc (aD .i64 s.1.1 1)) (gd (bf (nN (aD .i64 s.1.1 1)) (len v0.1.1)) (br (ck (nth aH v0.1.1 (nN s.1.1)).2.2.1 (nth aH v0.1.1 (nN (aD .i64 s.1.1 1))).2.2.1) (some ((false,()),(v1.2.2.2.2.1,(v1.2.2.2.2.2.1,(v1.2.2.2.2.2.2.1,(v1.2.2.2.2.2.2.2.1,(v1.2.2.2.2.2.2.2.2.1,(v2.2.2.2.2.2.2.1,v1.2.2.2.2.2.2.2.2.2)))))))) (k4 ((),((),((),((),())))))))) (k4 ((),((),((),((),()))))))))))) (br (ae (nth aH v0.1.1 (nN s.1.1)).1 3) (br (ck (nth aH v0.1.1 (nN s.1.1)).2.2.1 s.2.2.2.1.2.1.2.2.2.1) (some ((false,()),(v1.2.2.2.2.1,(v1.2.2.2.2.2.1,(v1.2.2.2.2.2.2.1,(v1.2.2.2.2.2.2.2.1,(v1.2.2.2.2.2.2.2.2.1,(v2.2.2.2.2.2.2.1,v1.2.2.2.2.2.2.2.2.2)))))))) (br (ck (zN (len v1.2.1.1)) (nth aH v0.1.1 (nN s.1.1)).2.2.1) (some ((false,()),(v1.2.2.2.2.1,(v1.2.2.2.2.2.1,(v1.2.2.2.2.2.2.1,(v1.2.2.2.2.2.2.2.1,(v1.2.2.2.2.2.2.2.2.1,(v2.2.2.2.2.2.2.1,v1.2.2.2.2.2.2.2.2.2)))))))) (gd (bc (nth aH v0.1.1 (nN s.1.1)).2.2.1) (gd (bf (nN (nth aH v0.1.1 (nN s.1.1)).2.2.1) (len v1.2.1.1)) (br (aw (ae (nth 0 v1.2.1.1 (nN (nth aH v0.1.1 (nN s.1.1)).2.2.1)) (nth aH v0.1.1 (nN s.1.1)).1)) (some ((false,()),(v1.2.2.2.2.1,(v1.2.2.2.2.2.1,(v1.2.2.2.2.2.2.1,(v1.2.2.2.2.2.2.2.1,(v1.2.2.2.2.2.2.2.2.1,(v2.2.2.2.2.2.2.1,v1.2.2.2.2.2.2.2.2.2)))))))) (br (a_ 0 s.1.1) (gd (bc (aD .i64 s.1.1 1)) (gd (bf (nN (aD .i64 s.1.1 1)) (len v0.1.1)) (br (ck (nth aH v0.1.1 (nN s.1.1)).2.2.1 (nth aH v0.1.1 (nN (aD .i64 s.1.1 1))).2.2.1) (some ((false,()),(v1.2.2.2.2.1,(v1.2.2.2.2.2.1,(v1.2.2.2.2.2.2.1,(v1.2.2.2.2.2.2.2.1,(v1.2.2.2.2.2.2.2.2.1,(v2.2.2.2.2.2.2.1,v1.2.2.2.2.2.2.2.2.2)))))))) (k4 ((),((),((),((),())))))))) (k4 ((),((),((),((),()))))))))))) none))))) (fun (s5:(Unit×U2))=>(jn (fun (k6:E2→_)=>(br (ae (nth aH v0.1.1 (nN s.1.1)).1 0) (k6 ((),((),((),(((1099511627776,(s.2.2.2.1.2.1.2.1,(s.2.2.2.1.2.1.2.2.1,(s.2.2.2.1.2.1.2.2.2.1,())))),()),()))))) (br (ae (nth aH v0.1.1 (nN s.1.1)).1 1) (k6 ((),((),((),(((s.2.2.2.1.2.1.1,(1099511627776,(s.2.2.2.1.2.1.2.2.1,(s.2.2.2.1.2.1.2.2.2.1,())))),()),()))))) (br (ae (nth aH v0.1.1 (nN s.1.1)).1 2) (k6 ((),((),((),(((s.2.2.2.1.2.1.1,(s.2.2.2.1.2.1.2.1,(1099511627776,(s.2.2.2.1.2.1.2.2.2.1,())))),()),()))))) (br (ae (nth aH v0.1.1 (nN s.1.1)).1 3) (k6 ((),((),((),(((s.2.2.2.1.2.1.1,(s.2.2.2.1.2.1.2.1,(s.2.2.2.1.2.1.2.2.1,(1099511627776,())))),()),()))))) none))))) (fun (s7:E2)=>(jn (fun (k8:E2→_)=>(br (ck 0 (nth aH v0.1.1 (nN s.1.1)).2.2.2.2.1) (br (ae (nth aH v0.1.1 (nN s.1.1)).1 0) (k8 ((),((),((),((((nth aH v0.1.1 (nN s.1.1)).2.2.2.2.1,(s7.2.2.2.1.1.2.1,(s7.2.2.2.1.1.2.2.1,(s7.2.2.2.1.1.2.2.2.1,())))),()),()))))) (br (ae (nth aH v0.1.1 (nN s.1.1)).1 1) (k8 ((),((),((),(((s7.2.2.2.1.1.1,((nth aH v0.1.1 (nN s.1.1)).2.2.2.2.1,(s7.2.2.2.1.1.2.2.1,(s7.2.2.2.1.1.2.2.2.1,())))),()),()))))) (br (ae (nth aH v0.1.1 (nN s.1.1)).1 2) (k8 ((),((),((),(((s7.2.2.2.1.1.1,(s7.2.2.2.1.1.2.1,((nth aH v0.1.1 (nN s.1.1)).2.2.2.2.1,(s7.2.2.2.1.1.2.2.2.1,())))),()),()))))) (br (ae (nth aH v0.1.1 (nN s.1.1)).1 3) (k8 ((),((),((),(((s7.2.2.2.1.1.1,(s7.2.2.2.1.1.2.1,(s7.2.2.2.1.1.2.2.1,((nth aH v0.1.1 (nN s.1.1)).2.2.2.2.1,())))),()),()))))) none)))) (k8 ((),((),((),(((s7.2.2.2.1.1.1,(s7.2.2.2.1.1.2.1,(s7.2.2.2.1.1.2.2.1,(s7.2.2.2.1.1.2.2.2.1,())))),()),()))))))) (fun (s9:E2)=>(br (aw (ae (nth aH v0.1.1 (nN s.1.1)).2.2.2.1 (nth aH v0.1.1 (nN s.1.1)).2.2.2.2.1)) (some ((false,()),(v1.2.2.2.2.1,(v1.2.2.2.2.2.1,(v1.2.2.2.2.2.2.1,(v1.2.2.2.2.2.2.2.1,(v1.2.2.2.2.2.2.2.2.1,(v2.2.2.2.2.2.2.1,v1.2.2.2.2.2.2.2.2.2)))))))) (br (ck (zN (len v1.2.1.1)) (nth aH v0.1.1 (nN s.1.1)).2.2.2.2.1) (some ((false,()),(v1.2.2.2.2.1,(v1.2.2.2.2.2.1,(v1.2.2.2.2.2.2.1,(v1.2.2.2.2.2.2.2.1,(v1.2.2.2.2.2.2.2.2.1,(v2.2.2.2.2.2.2.1,v1.2.2.2.2.2.2.2.2.2)))))))) (br (ck 0 (nth aH v0.1.1 (nN s.1.1)).2.2.2.2.1) (br (a_ (nth aH v0.1.1 (nN s.1.1)).2.2.2.2.1 (nth aH v0.1.1 (nN s.1.1)).2.2.1) (some ((false,()),(v1.2.2.2.2.1,(v1.2.2.2.2.2.1,(v1.2.2.2.2.2.2.1,(v1.2.2.2.2.2.2.2.1,(v1.2.2.2.2.2.2.2.2.1,(v2.2.2.2.2.2.2.1,v1.2.2.2.2.2.2.2.2.2)))))))) (gd (bc (nth aH v0.1.1 (nN s.1.1)).2.2.2.2.1) (gd (bf (nN (nth aH v0.1.1 (nN s.1.1)).2.2.2.2.1) (len v1.2.1.1)) (br (aw (ae (nth 0 v1.2.1.1 (nN (nth aH v0.1.1 (nN s.1.1)).2.2.2.2.1)) (nth aH v0.1.1 (nN s.1.1)).1)) (some ((false,()),(v1.2.2.2.2.1,(v1.2.2.2.2.2.1,(v1.2.2.2.2.2.2.1,(v1.2.2.2.2.2.2.2.1,(v1.2.2.2.2.2.2.2.2.1,(v2.2.2.2.2.2.2.1,v1.2.2.2.2.2.2.2.2.2)))))))) (k (((af .i64 s.1.1 1),()),((),((),(((s3.2.2.2.1.1.1,(s3.2.2.2.1.1.2.1,(s3.2.2.2.1.1.2.2.1,(s3.2.2.2.1.1.2.2.2.1,())))),((s9.2.2.2.1.1.1,(s9.2.2.2.1.1.2.1,(s9.2.2.2.1.1.2.2.1,(s9.2.2.2.1.1.2.2.2.1,())))),())),()))))))))) (k (((af .i64 s.1.1 1),()),((),((),(((s3.2.2.2.1.1.1,(s3.2.2.2.1.1.2.1,(s3.2.2.2.1.1.2.2.1,(s3.2.2.2.1.1.2.2.2.1,())))),((s9.2.2.2.1.1.1,(s9.2.2.2.1.1.2.1,(s9.2.2.2.1.1.2.2.1,(s9.2.2.2.1.1.2.2.2.1,())))),())),())))))))))))))))))))) (bd (g.gu v4 v1.2.2.2.2.1 v1.2.2.2.2.2.1 v1.2.2.2.2.2.2.1 v1.2.2.2.2.2.2.2.1 v1.2.2.2.2.2.2.2.2.1 v2.2.2.2.2.2.2.1 v1.2.2.2.2.2.2.2.2.2.1 v1.2.2.2.2.2.2.2.2.2.2.1 v1.2.2.2.2.2.2.2.2.2.2.2.1 v1.2.2.2.2.2.2.2.2.2.2.2.2.1) (fun gA=>(some (((ae gA.1.1 (zN (len v1.2.1.1))),()),(v1.2.2.2.2.1,(v1.2.2.2.2.2.1,(v1.2.2.2.2.2.2.1,(v1.2.2.2.2.2.2.2.1,(v1.2.2.2.2.2.2.2.2.1,(v2.2.2.2.2.2.2.1,v1.2.2.2.2.2.2.2.2.2)))))))))))
def g.eH (a1:(List Int)) (v0:(Unit×U6)→Es) (v1:Ht) (v2:Nat) (v3:U9) (k:(((Int×Unit)×U6)→Es)) (s:((Int×Unit)×U6)):Es:=(jn (fun (k0:(Unit×U2)→_)=>(br (a_ s.1.1 (zN (len a1))) (br (a_ s.1.1 300) (k0 ((),((),((),((),()))))) (v0 ((),((s.2.1.1,()),((),((),s.2.2.2.2)))))) (v0 ((),((s.2.1.1,()),((),((),s.2.2.2.2))))))) (fun (s1:(Unit×U2))=>(gd (bc s.1.1) (gd (bf (nN s.1.1) (len a1)) (gd (EN v1.1.1.2.1) (bd (g.bS v2 (dq (dt .i64 (nth 0 a1 (nN s.1.1))) v1.1.1.2.1) v3.2.2.2.2.2.2.1 s.2.2.2.2.1 s.2.2.2.2.2.1 s.2.2.2.2.2.2.1 s.2.2.2.2.2.2.2.1 s.2.2.2.2.2.2.2.2.1 s.2.2.2.2.2.2.2.2.2.1 s.2.2.2.2.2.2.2.2.2.2.1 s.2.2.2.2.2.2.2.2.2.2.2.1 s.2.2.2.2.2.2.2.2.2.2.2.2.1) (fun p2=>(br (ae p2.1.2.1 0) (gd (bB (aL (len s.2.1.1) (len [(dq (dt .i64 (nth 0 a1 (nN s.1.1))) v1.1.1.2.1)])) 16777216) (k (((af .i64 s.1.1 1),()),(((cat s.2.1.1 [(dq (dt .i64 (nth 0 a1 (nN s.1.1))) v1.1.1.2.1)]),()),((),((),p2.2)))))) (k (((af .i64 s.1.1 1),()),((s.2.1.1,()),((),((),p2.2)))))))))))))
def g.jX (a1:(List Int)) (v0:(Unit×U6)→Es) (v1:Ht) (k:(((Int×Unit)×U6)→Es)) (s:((Int×Unit)×U6)):Es:=(jn (fun (k0:(Unit×U2)→_)=>(br (a_ s.1.1 (zN (len a1))) (br (a_ s.1.1 300) (k0 ((),((),((),((),()))))) (v0 ((),((s.2.1.1,()),((),((),s.2.2.2.2)))))) (v0 ((),((s.2.1.1,()),((),((),s.2.2.2.2))))))) (fun (s1:(Unit×U2))=>(gd (bc s.1.1) (gd (bf (nN s.1.1) (len a1)) (gd (EN v1.1.1.2.1) none)))))
def g.fq (a0:((Int×U4)×((List (List U4))×U7))) (a1:(List Int)) (d0:T0) (d1:T1) (d2:T2) (d3:T3) (d4:T4) (d5:T5) (d6:T6) (d7:T7) (d8:T2) (d9:T9):Es:=(bd (g.cn d0 d1 d2 d3 d4 d5 d6 d7 d8 d9) (fun p0=>(bd (g.gV a0) (fun p1=>(bd (g.iE p1.1.1 p1.1.2.1 p1.1.2.2.1 p0.2.2.2.2.2.2.2.2.1 p0.2.1 p0.2.2.1 p0.2.2.2.1 p0.2.2.2.2.1 p0.2.2.2.2.2.1 p0.2.2.2.2.2.2.1 p0.2.2.2.2.2.2.2.1 p0.2.2.2.2.2.2.2.2.2.1 p0.2.2.2.2.2.2.2.2.2.2.1) (fun p2=>(opt p2.1.1 (jn (fun (k3:(Unit×U2)→_)=>(br (aw p0.1.1) (some ((false,()),(p2.2.1,(p2.2.2.1,(p2.2.2.2.1,(p2.2.2.2.2.1,(p2.2.2.2.2.2.1,(p2.2.2.2.2.2.2.1,(p2.2.2.2.2.2.2.2.1,(p0.2.2.2.2.2.2.2.2.1,(p2.2.2.2.2.2.2.2.2.1,(p2.2.2.2.2.2.2.2.2.2.1,())))))))))))) (some ((false,()),(p2.2.1,(p2.2.2.1,(p2.2.2.2.1,(p2.2.2.2.2.1,(p2.2.2.2.2.2.1,(p2.2.2.2.2.2.2.1,(p2.2.2.2.2.2.2.2.1,(p0.2.2.2.2.2.2.2.2.1,(p2.2.2.2.2.2.2.2.2.1,(p2.2.2.2.2.2.2.2.2.2.1,())))))))))))))) (fun (s4:(Unit×U2))=>(jn (fun (k5:(Unit×U6)→_)=>(loop (g.jX a1 k5 p1) ((0,()),(([],()),((),((),(p2.2.1,(p2.2.2.1,(p2.2.2.2.1,(p2.2.2.2.2.1,(p2.2.2.2.2.2.1,(p2.2.2.2.2.2.2.2.1,(p0.2.2.2.2.2.2.2.2.1,(p2.2.2.2.2.2.2.2.2.1,(p2.2.2.2.2.2.2.2.2.2.1,()))))))))))))))) (fun (s10:(Unit×U6))=>none)))) (fun kH=>(jn (fun (QB:(Unit×U2)→_)=>(br (aw p0.1.1) (some ((false,()),(p2.2.1,(p2.2.2.1,(p2.2.2.2.1,(p2.2.2.2.2.1,(p2.2.2.2.2.2.1,(p2.2.2.2.2.2.2.1,(p2.2.2.2.2.2.2.2.1,(p0.2.2.2.2.2.2.2.2.1,(p2.2.2.2.2.2.2.2.2.1,(p2.2.2.2.2.2.2.2.2.2.1,())))))))))))) (br (aw (ae p2.1.2.1 0)) (some ((false,()),(p2.2.1,(p2.2.2.1,(p2.2.2.2.1,(p2.2.2.2.2.1,(p2.2.2.2.2.2.1,(p2.2.2.2.2.2.2.1,(p2.2.2.2.2.2.2.2.1,(p0.2.2.2.2.2.2.2.2.1,(p2.2.2.2.2.2.2.2.2.1,(p2.2.2.2.2.2.2.2.2.2.1,())))))))))))) (QB ((),((),((),((),())))))))) (fun (s13:(Unit×U2))=>(jn (fun (rQ:(Unit×U6)→_)=>(loop (g.eH a1 rQ p1 kH p2) ((0,()),(([],()),((),((),(p2.2.1,(p2.2.2.1,(p2.2.2.2.1,(p2.2.2.2.2.1,(p2.2.2.2.2.2.1,(p2.2.2.2.2.2.2.2.1,(p0.2.2.2.2.2.2.2.2.1,(p2.2.2.2.2.2.2.2.2.1,(p2.2.2.2.2.2.2.2.2.2.1,()))))))))))))))) (fun (wq:(Unit×U6))=>(bd (g.dS kH wq.2.2.2.2.1 wq.2.2.2.2.2.1 wq.2.2.2.2.2.2.1 wq.2.2.2.2.2.2.2.1 wq.2.2.2.2.2.2.2.2.1 p2.2.2.2.2.2.2.1 wq.2.2.2.2.2.2.2.2.2.1 wq.2.2.2.2.2.2.2.2.2.2.1 wq.2.2.2.2.2.2.2.2.2.2.2.1 wq.2.2.2.2.2.2.2.2.2.2.2.2.1) (fun lr=>(loop (g.eI lr wq p2 p1 kH) ((0,()),((),((),(((0,(0,(0,(0,())))),(((-1),((-1),((-1),((-1),())))),())),())))))))))))))))))))
def F4:Plain sg4:=fun x c d=>g.fq x.1 x.2.1 d.1 d.2.1 d.2.2.1 d.2.2.2.1 d.2.2.2.2.1 d.2.2.2.2.2.1 d.2.2.2.2.2.2.1 d.2.2.2.2.2.2.2.1 d.2.2.2.2.2.2.2.2.1 d.2.2.2.2.2.2.2.2.2.1
theorem ct4:bJ Tryz.prog 4 sg4 F4:=bY (ao ct7 (ao ct8 (ao ct9 (ao Tu (ao Tn (ao Zi (aN))))))) fun x c d=>by kernel_rfl
open Go.Bm Go.oQ
def G2 (p:mE):mE:=(1+p.1%8,(1+p.2.1%4,(8*(p.2.2.1%64),8*(p.2.2.2%128))))
theorem xn (p:mE):eM (G2 p)=true:=by
 rw [fa];unfold G2;simp only;omega
theorem uT (p:mE):g.gU p=some ((G2 p,()),()):=by
 unfold g.gU
 rw [kr 3 (by omega) (by decide),kr 2 (by omega) (by decide),kr 6 (by omega) (by decide),kr 7 (by omega) (by decide)]
 rw [aS (by omega),aS (by omega),de (by omega),de (by omega)]
 rfl
def oA (o:oK):oK:=
 if o.1%5=0 then (o.1%5,(o.2.1%64,0)) else if o.1%5=1 then (o.1%5,(o.2.1%8%6,0)) else if o.1%5=2 then (o.1%5,(o.2.1%8%6,o.2.2%8%6))
 else if o.1%5=3 then (o.1%5,(o.2.1%8%6,o.2.2%8)) else (o.1%5,(0,0))
def kD (l:List oK):List oK:=(l.take 8).map oA
def AK (f:List (List oK)):List (List oK):=(f.take 8).map kD
theorem vL (o:oK):mK (oA o):=by
 have e0:o.1%5=0∨o.1%5=1∨o.1%5=2∨o.1%5=3∨o.1%5=4:=by omega
 unfold oA
 rcases e0 with h | h | h | h | h
 ·rw [if_pos h];refine .inl ⟨h,?_,?_,rfl⟩<;>dsimp only<;>omega
 ·rw [if_neg (by omega),if_pos h];refine .inr (.inl ⟨h,?_,?_,rfl⟩)<;>dsimp only<;>omega
 ·rw [if_neg (by omega),if_neg (by omega),if_pos h];refine .inr (.inr (.inl ⟨h,?_,?_,?_,?_⟩))<;>dsimp only<;>omega
 ·rw [if_neg (by omega),if_neg (by omega),if_neg (by omega),if_pos h];refine .inr (.inr (.inr (.inl ⟨h,?_,?_,?_,?_⟩)))<;>dsimp only<;>omega
 ·rw [if_neg (by omega),if_neg (by omega),if_neg (by omega),if_neg (by omega)];exact .inr (.inr (.inr (.inr ⟨h,rfl,rfl⟩)))
theorem xp (f:List (List oK)):iK (AK f):=by
 refine ⟨by unfold AK;simp;omega,fun l hl=>?_⟩
 obtain ⟨l',_,rfl⟩:=List.mem_map.1 hl
 refine ⟨by unfold kD;simp;omega,fun o ho=>?_⟩
 obtain ⟨o',_,rfl⟩:=List.mem_map.1 ho
 exact vL o'
theorem m5 {α β:Type} (f:α→β) {l:List α} {k:Nat} (hk:k<l.length):(l.take (k+1)).map f=(l.take k).map f++[f l[k]]:=by
 rw [List.take_add_one,zD hk,List.map_append];rfl
abbrev Zx:Type:=((Int×Unit)×(((List (List oK))×Unit)×(Unit×(Unit×Unit))))
theorem K8 {f:List (List oK)} (mg:∀l∈f,∀o∈l,0≤o.1) {i:Nat} (hi:i<f.length) (hi8:i<8) {out:List (List oK)} (ho:out.length=i) (v1:Zx→Option (((List (List oK))×Unit)×Unit)) :
  loop (g.fk f (((i:Int),()),((out,()),((),((),())))) v1) ((0,()),(([],()),((),((),()))))=v1 ((((i+1:Nat):Int),()),(((out++[kD f[i]]),()),((),((),())))):=by
 have hff:nth [] f (nN (i:Int))=f[i]:=fE hi
 have ei:af IntKind.i64 (i:Int) 1=((i+1:Nat):Int):=by rw [aS (by omega)];omega
 generalize hl:f[i]=l at *
 have mg:=mg l (by rw [←hl];exact List.getElem_mem hi)
 refine (lx (fun k=>((((k:Nat):Int),()),((((l.take k).map oA,()),((),((),())))))) (fun _=>v1 ((((i+1:Nat):Int),()),(((out++[kD l]),()),((),((),()))))) (min l.length 8) (by unfold lQ;omega) (fun K=>?_) (fun k hk=>.inr ⟨rfl,fun K=>?_⟩))
 ·have e8:(l.take (min l.length 8)).map oA=kD l:=by
   unfold kD
   by_cases h:l.length≤8
   ·rw [Nat.min_eq_left h,List.take_length,za h]
   ·rw [Nat.min_eq_right (by omega)]
  rw [e8]
  unfold g.fk
  dsimp only
  rw [hff]
  by_cases h:l.length≤8
  ·rw [Nat.min_eq_left h]
   repeat refine HS ?_
   rw [ei];rfl
  ·rw [Nat.min_eq_right (by omega)]
   repeat refine HS ?_
   rw [ei];rfl
 ·have h1:k<l.length:=by omega
  have h2:k<8:=by omega
  have e:∀d,nth d l (nN (k:Int))=l[k]:=fun d=>fE h1
  have h0:=mg l[k] (List.getElem_mem h1)
  have ek:af IntKind.i64 (k:Int) 1=((k+1:Nat):Int):=by rw [aS (by omega)];omega
  have hlen:((l.take k).map oA).length=k:=by simp;omega
  rw [m5 oA h1]
  generalize (l.take k).map oA=p at *
  unfold g.fk
  dsimp only
  rw [hff,e]
  generalize l[k]=o at *
  have er:dq o.1 5=o.1%5:=cM h0
  have eA:bits BinOp.and IntKind.i64 o.2.1 63=o.2.1%64:=kr 6 (by omega) (by decide)
  have eB:bits BinOp.and IntKind.i64 o.2.1 7=o.2.1%8:=kr 3 (by omega) (by decide)
  have eC:bits BinOp.and IntKind.i64 o.2.2 7=o.2.2%8:=kr 3 (by omega) (by decide)
  have eD:dq (o.2.1%8) 6=o.2.1%8%6:=cM (by omega)
  have eE:dq (o.2.2%8) 6=o.2.2%8%6:=cM (by omega)
  rw [er,eA,eB,eC,eD,eE,ek]
  unfold oA
  by_cases c0:o.1%5=0
  ·rw [if_pos c0]
   repeat refine HS ?_
   rfl
  rw [if_neg c0]
  by_cases c1:o.1%5=1
  ·rw [if_pos c1]
   repeat refine HS ?_
   rfl
  rw [if_neg c1]
  by_cases c2:o.1%5=2
  ·rw [if_pos c2]
   repeat refine HS ?_
   rfl
  rw [if_neg c2]
  by_cases c3:o.1%5=3
  ·rw [if_pos c3]
   repeat refine HS ?_
   rfl
  rw [if_neg c3]
  repeat refine HS ?_
  rfl
theorem uS {f:List (List oK)} (mg:∀l∈f,∀o∈l,0≤o.1):g.gT f=some ((AK f,()),()):=by
 unfold g.gT
 refine (lx (fun k=>((((k:Nat):Int),()),((((f.take k).map kD,()),((),((),())))))) (fun _=>some ((AK f,()),())) (min f.length 8) (by unfold lQ;omega) (fun K=>?_) (fun k hk=>.inr ⟨rfl,fun K=>?_⟩))
 ·have e8:(f.take (min f.length 8)).map kD=AK f:=by
   unfold AK
   by_cases h:f.length≤8
   ·rw [Nat.min_eq_left h,List.take_length,za h]
   ·rw [Nat.min_eq_right (by omega)]
  rw [e8]
  unfold g.gY
  dsimp only
  by_cases h:f.length≤8
  ·rw [Nat.min_eq_left h]
   by_cases h8:f.length=8
   ·repeat refine HS ?_
    rfl
   ·repeat refine HS ?_
    rfl
  ·rw [Nat.min_eq_right (by omega)]
   repeat refine HS ?_
   rfl
 ·have h1:k<f.length:=by omega
  have h2:k<8:=by omega
  have hlen:((f.take k).map kD).length=k:=by simp;omega
  rw [m5 kD h1]
  unfold g.gY
  dsimp only
  repeat refine HS ?_
  exact K8 mg h1 h2 hlen K
def pn (l:List lS):Prop:=∀c∈l,0≤c.2.1∧0≤c.2.2.1∧0≤c.2.2.2.1
theorem yp (a b:Int):lA a b≤a∧lA a b≤b:=by unfold lA;split<;>omega
theorem yq {a b:Int} (h:0≤a) (h2:0≤b):0≤lA a b:=by unfold lA;split<;>omega
theorem BG {α:Type} {x:α} {n:Nat} {l:List α} (h:x∈tk n (dr 0 l)):x∈l:=by
 have h:x∈List.take n (List.drop 0 l):=h
 rw [List.drop_zero] at h
 exact List.mem_of_mem_take h
theorem K7 (a:mE×(List (List oK)×List (List lS))) (mg:∀l∈a.2.1,∀o∈l,0≤o.1) (vA:∀l∈a.2.2,pn l):Ok (g.gV a) (fun r=>eM r.1.1=true∧iK r.1.2.1∧tj r.1.1 r.1.2.2.1):=by
 unfold g.gV
 have hp:=xn a.1
 have Gy:=fa.1 hp
 refine .gC (uT a.1) ?_
 generalize G2 a.1=p at *
 refine .l7 (fun s=>(s.2.1.1.length:Int)≤p.2.1∧∀l∈s.2.1.1,l.length≤64∧pn l) (fun s hs=>?_) fun kk gZ=>?_
 ·obtain ⟨s1,s2⟩:=hs
  refine .loop (fun m z=>∃k:Nat,z.1.1=(k:Int)∧z.2.1.1.length=s.2.1.1.length∧k+m=s.2.1.1.length∧∀l∈z.2.1.1,l.length≤64∧pn l) (fun m z gg hI ih=>?_) (N:=s.2.1.1.length) (by unfold lQ;omega) ⟨0,rfl,rfl,by omega,s2⟩
  obtain ⟨k,h1,h2,h3,h4⟩:=hI
  unfold g.jt
  rw [h1,gw]
  have ek:nN (k:Int)=k:=rfl
  refine .br (fun hb=>?_) fun hb=>?_
  ·have hb:=dX.1 hb
   have hk:k<z.2.1.1.length:=by omega
   have hg:bf (nN (k:Int)) (len z.2.1.1):=by rw [bA,aF,ek];exact hk
   have en:∀d,nth d z.2.1.1 (nN (k:Int))=z.2.1.1[k]:=fun d=>fE hk
   have hx:af .i64 (k:Int) 1=((k+1:Nat):Int):=by rw [aS (by omega)];rfl
   have hl:=h4 _ (List.getElem_mem hk)
   have hm:=yp (zN (len z.2.1.1[k])) 20
   have vC:0≤lA (zN (len z.2.1.1[k])) 20:=yq (by rw [gw];omega) (by omega)
   simp only [en]
   refine .gd (by rw [bn];omega) (.gd hg (.gd (by rw [bn];omega) (.gd hg (.gd (by rw [bn];exact vC) (.gd (by rw [dh];exact Nat.zero_le _) (.gd ?_ (.gd (by rw [bn];omega) (.gd hg (ih (m-1) _ (by omega) ⟨k+1,hx,?_,by omega,?_⟩)))))))))
   ·rw [gw] at hm ⊢
    rw [dh,cJ,aF];omega
   ·show (aj _ _ _ _).length=_
    rw [xM (show z.2.1.1[nN (k:Int)]?=some z.2.1.1[k] from zD hk),zM];exact h2
   ·show ∀l∈aj _ _ _ _,_
    rw [xM (show z.2.1.1[nN (k:Int)]?=some z.2.1.1[k] from zD hk)]
    intro l Uu
    rcases List.mem_or_eq_of_mem_set Uu with h | rfl
    ·exact h4 l h
    ·refine ⟨?_,fun c hc=>hl.2 c (BG hc)⟩
     show (List.take _ (List.drop 0 _)).length≤64
     rw [List.length_take,List.drop_zero];omega
  ·refine .gC (uS mg) (.some ⟨hp,xp _,?_,h4⟩)
   show (z.2.1.1.length:Int)≤p.2.1
   rw [h2];exact s1
 ·refine .loop (fun m z=>∃k:Nat,z.1.1=(k:Int)∧z.2.1.1.length=k∧(k:Int)≤p.2.1∧(k:Int)+m=p.2.1∧∀l∈z.2.1.1,l.length≤64∧pn l) (fun m z gg hI ih=>?_) (N:=p.2.1.toNat) (by unfold lQ;omega) ⟨0,rfl,rfl,by omega,by omega,fun l h=>nomatch h⟩
  obtain ⟨k,h1,h2,h3,h4,h5⟩:=hI
  have fin:∀b:Int×(Unit×(Unit×Unit)),Ok (kk ((),((z.2.1.1,()),((),((),()))))) (fun r=>eM r.1.1=true∧iK r.1.2.1∧tj r.1.1 r.1.2.2.1):=fun _=>gZ _ ⟨by show (z.2.1.1.length:Int)≤p.2.1;rw [h2];exact h3,h5⟩
  unfold g.js
  rw [h1]
  refine .l7 (fun _=>(k:Int)<p.2.1∧k<a.2.2.length) (fun s hs=>?_) fun kk2 WM=>.br (fun e=>.br (fun e2=>WM _ ⟨dX.1 e2,by have:=dX.1 e;rw [gw] at this;omega⟩) fun _=>fin (0,((),((),())))) fun _=>fin (0,((),((),())))
  obtain ⟨KH,hs⟩:=hs
  have ek:nN (k:Int)=k:=rfl
  have hg:bf (nN (k:Int)) (len a.2.2):=by rw [bA,aF,ek];exact hs
  have en:∀d,nth d a.2.2 (nN (k:Int))=a.2.2[k]:=fun d=>fE hs
  have hx:af .i64 (k:Int) 1=((k+1:Nat):Int):=by rw [aS (by omega)];rfl
  have hm:=yp (zN (len a.2.2[k])) 64
  have vC:0≤lA (zN (len a.2.2[k])) 64:=yq (by rw [gw];omega) (by omega)
  simp only [en]
  refine .gd (by rw [bn];omega) (.gd hg (.gd (by rw [bn];omega) (.gd hg (.gd (by rw [bn];exact vC) (.gd (by rw [dh];exact Nat.zero_le _) (.gd ?_ (.gd ?_ (ih (m-1) _ (by omega) ⟨k+1,hx,?_,by omega,by omega,?_⟩))))))))
  ·rw [gw] at hm ⊢
   rw [dh,cJ,aF];omega
  ·rw [dh];show len z.2.1.1+1≤_;rw [aF];omega
  ·show (z.2.1.1++[_]).length=_
   rw [zY,h2];rfl
  ·intro l hl
   rcases zX.1 hl with h | h
   ·exact h5 l h
   ·rw [zF] at h
    subst h
    refine ⟨?_,fun c hc=>vA _ (List.getElem_mem hs) c (BG hc)⟩
    show (List.take _ (List.drop 0 _)).length≤64
    rw [List.length_take,List.drop_zero]
    have:ax (nN (lA (zN (len a.2.2[k])) 64)) 0≤64:=by show nN _-0≤64;rw [cJ];omega
    omega
open Go.Bm Go.oQ
abbrev Op.from (o:pK):Int:=o.2.2.1
abbrev Op.key (o:pK):Int×lS:=(o.1,o.2.1)
def keys (l:List pK):List (Int×lS):=l.map Op.key
def eo (l:List (Int×lS)) (k:Int):Nat:=(l.filter (fun x=>decide (x.1=k))).length
theorem pg (l:List (Int×lS)) (x:Int×lS) (k:Int):eo (l++[x]) k=eo l k+(if x.1=k then 1 else 0):=by
 unfold eo
 rw [List.filter_append,zY]
 by_cases h:x.1=k
 ·rw [if_pos h,List.filter_cons_of_pos (by simpa using h)];rfl
 ·rw [if_neg h,List.filter_cons_of_neg (by simpa using h)];rfl
theorem CS {l:List pK} {q:Nat} {o o':pK} (h:l[q]?=some o) (he:Op.key o'=Op.key o):keys (l.set q o')=keys l:=by
 unfold keys
 rw [List.map_set,he]
 have:(l.map Op.key)[q]?=some (Op.key o):=by rw [zL,h];rfl
 exact qo this
structure TM (P:List (List lS)) (s:WS) (lf:List Int):Prop where
 st:s.st=lf.length
 op:∀(j:Nat) o,s.ops[j]?=some o→∃f:Nat,Op.from o=(f:Int)∧lf[f]?=some o.1∧Op.dg o=Op.to o∧(Op.to o = -1∨∃e:Nat,Op.to o=(e:Int)∧f≤e∧lf[e]?=some o.1)
 inc:∀(i j:Nat) o o',i<j→s.ops[i]?=some o→s.ops[j]?=some o'→Op.from o<Op.from o'
 sep:∀(i j:Nat) o o',i<j→s.ops[i]?=some o→s.ops[j]?=some o'→o.1=o'.1→0≤Op.to o∧Op.to o<Op.from o'
 idle:∀(k:Nat) t,s.tl[k]?=some t→Th.busy t=false→∀(j:Nat) o,s.ops[j]?=some o→o.1=(k:Int)→0≤Op.to o
 key:∀(j:Nat) x,(keys s.ops)[j]?=some x→∃(k:Nat) (pr:List lS),x.1=(k:Int)∧P[k]?=some pr∧pr[eo ((keys s.ops).take j) x.1]?=some x.2
 rest:∀(k:Nat) t,s.tl[k]?=some t→t.1=(P.getD k []).drop (eo (keys s.ops) (k:Int))
structure TB (P:List (List lS)) (s:WS) (lf:List Int) (k:Nat) (t1:pV) (fh:List pK):Prop where
 op:∀(j:Nat) o,fh[j]?=some o→∃f:Nat,Op.from o=(f:Int)∧(lf++[(k:Int)])[f]?=some o.1∧Op.dg o=Op.to o∧(Op.to o = -1∨∃e:Nat,Op.to o=(e:Int)∧f≤e∧(lf++[(k:Int)])[e]?=some o.1)
 inc:∀(i j:Nat) o o',i<j→fh[i]?=some o→fh[j]?=some o'→Op.from o<Op.from o'
 sep:∀(i j:Nat) o o',i<j→fh[i]?=some o→fh[j]?=some o'→o.1=o'.1→0≤Op.to o∧Op.to o<Op.from o'
 TZ:∀(j:Nat) o,fh[j]?=some o→o.1≠(k:Int)→s.ops[j]?=some o
 key:∀(j:Nat) x,(keys fh)[j]?=some x→∃(k:Nat) (pr:List lS),x.1=(k:Int)∧P[k]?=some pr∧pr[eo ((keys fh).take j) x.1]?=some x.2
 rest:t1.1=(P.getD k []).drop (eo (keys fh) (k:Int))
 cL:∀i:Int,i≠(k:Int)→eo (keys fh) i=eo (keys s.ops) i
 busy:Th.busy t1=true
theorem TM.begun {P:List (List lS)} {s:WS} {lf:List Int} (H:TM P s lf) {k:Nat} {t t1:pV} {fh:List pK} (hk:s.tl[k]?=some t) (hB:EF k t s.ops s.st t1 fh):TB P s lf k t1 fh:=by
 have hw:∀(f:Nat) x,lf[f]?=some x→(lf++[(k:Int)])[f]?=some x:=fun f x h=>by rw [zK (zB.1 h).1];exact h
 have mg:∀(j:Nat) o,s.ops[j]?=some o→∃f:Nat,Op.from o=(f:Int)∧(lf++[(k:Int)])[f]?=some o.1∧Op.dg o=Op.to o∧(Op.to o = -1∨∃e:Nat,Op.to o=(e:Int)∧f≤e∧(lf++[(k:Int)])[e]?=some o.1):=fun j o h=>by
  obtain ⟨f,h1,h2,h3,h4⟩:=H.op j o h
  refine ⟨f,h1,hw f _ h2,h3,?_⟩
  rcases h4 with h4 | ⟨e,h4,h5,h6⟩
  ·exact .inl h4
  ·exact .inr ⟨e,h4,h5,hw e _ h6⟩
 rcases hB with ⟨hb,rfl,rfl⟩ | ⟨hb,c,cs,r,h1,h2,rfl,rfl⟩
 ·exact ⟨mg,H.inc,H.sep,fun j o h _=>h,H.key,H.rest k _ hk,fun _ _=>rfl,hb⟩
 ·have pQ:=H.st
  have kV:∀(j:Nat) o,(s.ops++[m8 k c s.st])[j]?=some o→s.ops[j]?=some o∨(j=s.ops.length∧o=m8 k c s.st):=fun j o h=>by
   by_cases hj:j<s.ops.length
   ·rw [zK hj] at h;exact .inl h
   ·have eg:=(zB.1 h).1
    rw [zY] at eg
    have eg:j<s.ops.length+1:=eg
    have Jm:j=s.ops.length:=by omega
    subst Jm
    rw [zJ (Nat.le_refl _),Nat.sub_self] at h
    cases h
    exact .inr ⟨rfl,rfl⟩
  have Dj:(lf++[(k:Int)])[lf.length]?=some (k:Int):=by rw [zJ (Nat.le_refl _),Nat.sub_self];rfl
  have sB:keys (s.ops++[m8 k c s.st])=keys s.ops++[((k:Int),c)]:=by unfold keys;rw [List.map_append];rfl
  have aci:(keys s.ops).length=s.ops.length:=zH ..
  have qQ:=H.rest k t hk
  have hfw:∀(j:Nat) o,s.ops[j]?=some o→Op.from o<(s.st:Int):=fun j o h=>by
   obtain ⟨f,h1,h2,_⟩:=H.op j o h
   have:=(zB.1 h2).1
   omega
  refine ⟨?_,?_,?_,?_,?_,?_,?_,rfl⟩
  ·intro j o h
   rcases kV j o h with h | ⟨rfl,rfl⟩
   ·exact mg j o h
   ·exact ⟨lf.length,by show (s.st:Int)=_;rw [pQ],Dj,rfl,.inl rfl⟩
  ·intro i j o o' KP hi hj
   rcases kV i o hi with hi | ⟨hi1,rfl⟩
   ·rcases kV j o' hj with hj | ⟨hj1,rfl⟩
    ·exact H.inc i j o o' KP hi hj
    ·exact hfw i o hi
   ·have eg:=(zB.1 hj).1
    rw [zY] at eg
    have eg:j<s.ops.length+1:=eg
    omega
  ·intro i j o o' KP hi hj he
   rcases kV i o hi with hi | ⟨hi1,rfl⟩
   ·rcases kV j o' hj with hj | ⟨hj1,rfl⟩
    ·exact H.sep i j o o' KP hi hj he
    ·have h0:=H.idle k t hk hb i o hi he
     refine ⟨h0,?_⟩
     obtain ⟨f,_,_,_,h4⟩:=H.op i o hi
     rcases h4 with h4 | ⟨e,h4,_,h6⟩
     ·omega
     ·have:=(zB.1 h6).1
      show Op.to o<(s.st:Int)
      omega
   ·have eg:=(zB.1 hj).1
    rw [zY] at eg
    have eg:j<s.ops.length+1:=eg
    omega
  ·intro j o h ki
   rcases kV j o h with h | ⟨_,rfl⟩
   ·exact h
   ·exact absurd rfl ki
  ·intro j x h
   rw [sB] at h ⊢
   by_cases hj:j<(keys s.ops).length
   ·rw [zK hj] at h
    rw [List.take_append_of_le_length (by omega)]
    exact H.key j x h
   ·have eg:=(zB.1 h).1
    rw [zY] at eg
    have eg:j<(keys s.ops).length+1:=eg
    have Jm:j=(keys s.ops).length:=by omega
    subst Jm
    rw [zJ (Nat.le_refl _),Nat.sub_self] at h
    cases h
    rw [List.take_left]
    rw [h1] at qQ
    have hc:((P.getD k []).drop (eo (keys s.ops) (k:Int)))[0]?=some c:=by rw [←qQ];rfl
    rw [List.getElem?_drop,Nat.add_zero] at hc
    cases hP:P[k]? with
    | none=>
     rw [zA,hP] at hc
     cases hc
    | some pr=>
     rw [zA,hP] at hc
     exact ⟨k,pr,rfl,hP,hc⟩
  ·show cs=_
   rw [sB,pg,if_pos rfl]
   rw [h1] at qQ
   have:=congrArg List.tail qQ
   rw [List.tail_drop] at this
   exact this
  ·intro i hi
   rw [sB,pg,if_neg (fun h=>hi h.symm)];rfl
theorem TM.step {P:List (List lS)} {s s':WS} {lf:List Int} (H:TM P s lf) {k:Nat} {t:pV} (hk:s.tl[k]?=some t) (hS:JJ k t s s'):TM P s' (lf++[(k:Int)]):=by
 obtain ⟨t1,fh,r',hB,h1,h2⟩:=hS
 have B:=H.begun hk hB
 have rU:k<s.tl.length:=(zB.1 hk).1
 have pQ:s'.st=(lf++[(k:Int)]).length:=by rw [h1,H.st,zY];rfl
 have cast:∀i:Nat,i≠k→(i:Int)≠(k:Int):=fun i h=>by omega
 rcases h2 with ⟨d,ho,QG,Wq⟩ | ⟨d,nL,w',q,o,hq,Ji,Un,hqt,ho,QG,Wq⟩
 ·refine ⟨pQ,by rw [ho];exact B.op,by rw [ho];exact B.inc,by rw [ho];exact B.sep,?_,by rw [ho];exact B.key,?_⟩
  ·intro i t2 hi hb j o hj Ma
   rw [QG] at hi
   rw [ho] at hj
   by_cases qW:i=k
   ·subst qW
    rw [List.getElem?_set_self rU] at hi
    cases hi
    have:Th.busy (jy t1 r')=Th.busy t1:=rfl
    rw [this,B.busy] at hb;cases hb
   ·rw [List.getElem?_set_ne (fun h=>qW h.symm)] at hi
    exact H.idle i t2 hi hb j o (B.TZ j o hj (by rw [Ma];exact cast i qW)) Ma
  ·intro i t2 hi
   rw [QG] at hi
   rw [ho]
   by_cases qW:i=k
   ·subst qW
    rw [List.getElem?_set_self rU] at hi
    cases hi
    exact B.rest
   ·rw [List.getElem?_set_ne (fun h=>qW h.symm)] at hi
    rw [B.cL _ (cast i qW)]
    exact H.rest i t2 hi
 ·have KJ:=(zB.1 Ji).1
  have sB:keys s'.ops=keys fh:=by rw [ho];exact CS Ji rfl
  have kV:∀(j:Nat) o2,s'.ops[j]?=some o2→∃o1,fh[j]?=some o1∧o2.1=o1.1∧Op.from o2=Op.from o1∧((j=q∧Op.to o2=(s.st:Int)∧Op.dg o2=(s.st:Int))∨(j≠q∧o2=o1)):=fun j o2 h=>by
   rw [ho] at h
   by_cases hj:j=q
   ·subst hj
    rw [List.getElem?_set_self KJ] at h
    cases h
    exact ⟨o,Ji,rfl,rfl,.inl ⟨rfl,rfl,rfl⟩⟩
   ·rw [List.getElem?_set_ne (fun h=>hj h.symm)] at h
    exact ⟨o2,h,rfl,rfl,.inr ⟨hj,rfl⟩⟩
  have Dj:(lf++[(k:Int)])[lf.length]?=some (k:Int):=by rw [zJ (Nat.le_refl _),Nat.sub_self];rfl
  have GC:∀(j:Nat) o1,fh[j]?=some o1→o1.1=(k:Int)→j≠q→0≤Op.to o1:=fun j o1 h he hj=>by
   by_cases eg:j<q
   ·exact (B.sep j q o1 o eg h Ji (he.trans Un.symm)).1
   ·have:=(B.sep q j o o1 (by omega) Ji h (Un.trans he.symm)).1
    omega
  refine ⟨pQ,?_,?_,?_,?_,by rw [sB];exact B.key,?_⟩
  ·intro j o2 hj
   obtain ⟨o1,l1,l2,l3,l4⟩:=kV j o2 hj
   obtain ⟨f,f1,f2,f3,f4⟩:=B.op j o1 l1
   rcases l4 with ⟨rfl,l4,l5⟩ | ⟨_,rfl⟩
   ·rw [Ji] at l1;cases l1
    refine ⟨f,l3.trans f1,by rw [l2];exact f2,l5.trans l4.symm,.inr ⟨lf.length,by rw [l4,H.st],?_,by rw [l2,Un];exact Dj⟩⟩
    have:=(zB.1 f2).1
    rw [zY] at this
    have:f<lf.length+1:=this
    omega
   ·exact ⟨f,f1,f2,f3,f4⟩
  ·intro i j o2 o3 KP hi hj
   obtain ⟨o1,l1,_,l3,_⟩:=kV i o2 hi
   obtain ⟨o4,m1,_,m3,_⟩:=kV j o3 hj
   rw [l3,m3]
   exact B.inc i j o1 o4 KP l1 m1
  ·intro i j o2 o3 KP hi hj he
   obtain ⟨o1,l1,l2,l3,l4⟩:=kV i o2 hi
   obtain ⟨o4,m1,m2,m3,_⟩:=kV j o3 hj
   have hs:=B.sep i j o1 o4 KP l1 m1 (l2.symm.trans (he.trans m2))
   rcases l4 with ⟨rfl,l4,l5⟩ | ⟨_,rfl⟩
   ·rw [Ji] at l1;cases l1
    have:=hs.1;omega
   ·rw [m3];exact hs
  ·intro i t2 hi hb j o2 hj Ma
   obtain ⟨o1,l1,l2,l3,l4⟩:=kV j o2 hj
   rw [QG] at hi
   by_cases qW:i=k
   ·subst qW
    rcases l4 with ⟨_,l4,_⟩ | ⟨l4,rfl⟩
    ·rw [l4];omega
    ·exact GC j o2 l1 Ma l4
   ·rw [List.getElem?_set_ne (fun h=>qW h.symm)] at hi
    have ki:o2.1≠(k:Int):=by rw [Ma];exact cast i qW
    rcases l4 with ⟨rfl,_,_⟩ | ⟨_,rfl⟩
    ·rw [Ji] at l1;cases l1
     exact absurd (l2.trans Un) ki
    ·exact H.idle i t2 hi hb j o2 (B.TZ j o2 l1 ki) Ma
  ·intro i t2 hi
   rw [QG] at hi
   rw [sB]
   by_cases qW:i=k
   ·subst qW
    rw [List.getElem?_set_self rU] at hi
    cases hi
    exact B.rest
   ·rw [List.getElem?_set_ne (fun h=>qW h.symm)] at hi
    rw [B.cL _ (cast i qW)]
    exact H.rest i t2 hi
open Go.Bm Go.oQ
abbrev Er {β:Type} (x:Option ((Bool×Unit)×β)):Prop:=Ok x (fun r=>r.1.1=true)
theorem Ok.kq {α:Type} {c:Bool} {x y:Option α} {P:α→Prop} (h:c=true) (k:Ok x P):Ok (br c x y) P:=by rw [h];exact k
theorem Ok.fl {α:Type} {c:Bool} {x y:Option α} {P:α→Prop} (h:c=false) (k:Ok y P):Ok (br c x y) P:=by rw [h];exact k
def En (ops:List pK) (i:Nat) (c:Int) (v:Int):Prop:=v = -1∨∃(j:Nat) (o:pK),j<i∧ops[j]?=some o∧o.1=c∧(v=Op.to o∨Op.to o<0)
theorem En.up {ops:List pK} {i:Nat} {c v:Int} (h:En ops i c v):En ops (i+1) c v:=by
 rcases h with h | ⟨j,o,h1,h2⟩
 ·exact .inl h
 ·exact .inr ⟨j,o,by omega,h2⟩
abbrev TSt:Type:=(Int×Unit)×(Unit×(Unit×(((Int×(Int×(Int×(Int×Unit))))×((Int×(Int×(Int×(Int×Unit))))×Unit))×Unit)))
abbrev TOp:Type:=Unit×((List Int×Unit)×(Unit×(Unit×Ds)))
abbrev TNw:Type:=(Option Nat×(Int×Unit))×(T0×(T1×(T2×(T3×(T4×(T5×(T6×(T2×(T9×Unit)))))))))
abbrev TFt:Type:=(mE×(List (List oK)×(List (List lS)×Unit)))×Unit
theorem yU (x:lS):aw (aX (ae x.1 x.1) (aX (ae x.2.1 x.2.1) (aX (ae x.2.2.1 x.2.2.1) (aX (ae x.2.2.2.1 x.2.2.2.1) (aX (ae x.2.2.2.2.1 x.2.2.2.2.1) (aX (ae x.2.2.2.2.2.1 x.2.2.2.2.2.1) (aX (ae x.2.2.2.2.2.2 x.2.2.2.2.2.2) true)))))))=false:=by simp [aw,aX,ae]
set_option maxHeartbeats 8000000 in
theorem BI {n:Nat} {C:WC} {s:WS} {lf:List Int} {P:List (List lS)} (v0:((List pK)×Unit)×Unit) (v1:TOp) (v2:TNw) (v3:TFt)
  (H:WI n C s v2.2.2.2.2.2.2.1 v1.2.2.2.2) (hM:TM P s lf) (h0:v0.1.1=s.ops) (h1:v1.2.1.1=lf) (h3:v3.1.2.2.1=P) (hP4:P.length≤4) (hPl:∀pr∈P,pr.length≤64) (hw:lf.length≤1000) (hl:s.ops.length≤1000) :
  Er (loop (g.eI v0 v1 v2 v3 C.wi) ((0,()),((),((),(((0,(0,(0,(0,())))),(((-1),((-1),((-1),((-1),())))),())),()))))):=by
 refine .loop (fun m (z:TSt)=>∃i:Nat,z.1.1=(i:Int)∧i+m=s.ops.length ∧
  (z.2.2.2.1.1.1=(eo ((keys s.ops).take i) 0:Nat)∧z.2.2.2.1.1.2.1=(eo ((keys s.ops).take i) 1:Nat)∧z.2.2.2.1.1.2.2.1=(eo ((keys s.ops).take i) 2:Nat)∧z.2.2.2.1.1.2.2.2.1=(eo ((keys s.ops).take i) 3:Nat)) ∧
  En s.ops i 0 z.2.2.2.1.2.1.1∧En s.ops i 1 z.2.2.2.1.2.1.2.1∧En s.ops i 2 z.2.2.2.1.2.1.2.2.1∧En s.ops i 3 z.2.2.2.1.2.1.2.2.2.1) (fun m z gg hI ih=>?_) (N:=s.ops.length) (by unfold lQ;omega) ⟨0,rfl,by omega,⟨rfl,rfl,rfl,rfl⟩,.inl rfl,.inl rfl,.inl rfl,.inl rfl⟩
 obtain ⟨⟨iv,⟨⟩⟩,⟨⟩,⟨⟩,⟨⟨a0,a1,a2,a3,⟨⟩⟩,⟨e0,e1,e2,e3,⟨⟩⟩,⟨⟩⟩,⟨⟩⟩:=z
 obtain ⟨i,z1,z2,⟨c0,c1,c2,c3⟩,n0,n1,n2,n3⟩:=hI
 dsimp only at z1 c0 c1 c2 c3 n0 n1 n2 n3
 subst z1
 unfold g.eI
 rw [h0,h1,h3]
 simp only [gw]
 have ei:nN (i:Int)=i:=rfl
 refine .br (fun hb=>?_) fun hb=>?_
 rotate_left
 ·refine .gC (Hv H) (.some ?_)
  show ae (s.st:Int) (lf.length:Int)=true
  rw [hM.st];exact cU.2 rfl
 have hb:=dX.1 hb
 have hi:i<s.ops.length:=by omega
 have hx:af .i64 (i:Int) 1=((i+1:Nat):Int):=by rw [aS (by omega)];rfl
 have Uy:bf (nN (i:Int)) (len s.ops):=by rw [bA,aF,ei];exact hi
 have Ux:bc (i:Int):=by rw [bn];omega
 obtain ⟨o,ho⟩:∃o,s.ops[i]?=some o:=⟨_,zD hi⟩
 have hko:(keys s.ops)[i]?=some (Op.key o):=by unfold keys;rw [zL,ho];rfl
 obtain ⟨k,pr,k1,k2,k3⟩:=hM.key i _ hko
 obtain ⟨f,f1,f2,f3,f4⟩:=hM.op i o ho
 have rU:=(zB.1 k2).1
 have adI:=hPl pr (zG k2)
 have Dr:=(zB.1 k3).1
 have ad8:=(zB.1 f2).1
 have iX:∀x:Int,eo ((keys s.ops).take (i+1)) x=eo ((keys s.ops).take i) x+(if o.1=x then 1 else 0):=fun x=>by
  rw [List.take_add_one,hko]
  exact pg _ _ _
 have GK:∀(j:Nat) (o':pK),j<i→s.ops[j]?=some o'→o'.1=o.1→0≤Op.to o'∧Op.to o' < Op.from o:=fun j o' h1 h2 h3=>hM.sep j i o' o h1 h2 ho h3
 have xd:∀j:Nat,j+1=i→∀d,Op.from (nth d s.ops j)<Op.from o:=fun j hj d=>by
  have WQ:j<s.ops.length:=by omega
  rw [fE WQ]
  exact hM.inc j i _ o (by omega) (zD WQ) ho
 have hOO:∀d,nth d s.ops (nN (i:Int))=o:=fun d=>bF ho
 have Gy:∀d,nth d P k=pr:=fun d=>bF k2
 have nB:Op.from o=(f:Int):=f1
 have lW:(Op.to o = -1∨∃e:Nat,Op.to o=(e:Int)∧f≤e∧lf[e]?=some o.1):=f4
 obtain ⟨o1,Ea,fr,pt,to,ans⟩:=o
 dsimp only at hOO k1 k3 f1 f2 f3 iX GK xd lW Dr
 have f3:pt=to:=f3
 subst f3
 have k1:o1=(k:Int):=k1
 have f1':fr=(f:Int):=f1
 have GK:∀(j:Nat) (o':pK),j<i→s.ops[j]?=some o'→o'.1=o1→0≤Op.to o'∧Op.to o' < fr:=GK
 have xd:∀j:Nat,j+1=i→∀d,Op.from (nth d s.ops j)<fr:=xd
 have Uj:∀d,nth d lf (nN fr)=o1:=fun d=>by rw [f1'];exact bF f2
 have GL:∀d,nth d pr (eo ((keys s.ops).take i) o1)=Ea:=fun d=>bF k3
 have WL:k=0∨k=1∨k=2∨k=3:=by omega
 simp only [hOO]
 rcases WL with gZ | gZ | gZ | gZ
 ·have hk:k=0:=gZ
  subst hk
  have k1:o1=0:=k1
  subst k1
  have hlen:P.length > 0:=rU
  have t0:eo ((keys s.ops).take (i+1)) 0=eo ((keys s.ops).take i) 0+1:=by rw [iX,if_pos rfl]
  have t1:eo ((keys s.ops).take (i+1)) 1=eo ((keys s.ops).take i) 1+0:=by rw [iX,if_neg (by decide)]
  have t2:eo ((keys s.ops).take (i+1)) 2=eo ((keys s.ops).take i) 2+0:=by rw [iX,if_neg (by decide)]
  have t3:eo ((keys s.ops).take (i+1)) 3=eo ((keys s.ops).take i) 3+0:=by rw [iX,if_neg (by decide)]
  have w_:∀d,nth d P (nN (0:Int))=pr:=Gy
  have Du:bf (nN (0:Int)) (len P):=by rw [bA,aF];exact hlen
  have KW:∀d,nth d pr (nN a0)=Ea:=fun d=>by rw [c0];exact GL d
  have KY:bc a0:=by rw [bn,c0];omega
  have GM:bf (nN a0) (len pr):=by rw [bA,aF,c0];exact Dr
  have hE:¬fr≤e0:=by
   rcases n0 with h | ⟨j,o',j1,j2,j3,j4⟩
   ·omega
   ·have:=GK j o' j1 j2 j3
    have h5:Op.to o' < fr:=this.2
    have h6:=this.1
    rcases j4 with j4 | j4<;>omega
  simp only [w_,KW]
  refine .gd Ux (.gd Uy (.l7 (fun _=>True) (fun u _=>?_) (fun kk gZ=>?_)))
  rotate_left
  ·(repeat (first | refine Ok.kq (by decide) ?_ | refine Ok.fl (by decide) ?_))
   refine Ok.fl (dR.2 (by omega)) ?_
   (repeat (first | refine Ok.kq (by decide) ?_ | refine Ok.fl (by decide) ?_))
   refine .gd (by decide) (.gd Du (Ok.fl (dR.2 (by rw [c0];omega)) (.gd (by decide) (.gd Du ?_))))
   (repeat (first | refine Ok.kq (by decide) ?_ | refine Ok.fl (by decide) ?_))
   exact .gd KY (.gd GM (Ok.fl (yU Ea) (gZ _ trivial)))
  refine .jn ?_
  (repeat (first | refine Ok.kq (by decide) ?_ | refine Ok.fl (by decide) ?_))
  refine .l7 (fun _=>True) (fun u _=>?_) (fun kk gZ=>?_)
  rotate_left
  ·(repeat (first | refine Ok.kq (by decide) ?_ | refine Ok.fl (by decide) ?_))
   refine Ok.fl (dR.2 hE) (Ok.fl (dR.2 (by omega)) (.gd (by rw [bn];omega) (.gd (by rw [bA,cJ,aF];omega) (Ok.fl (by rw [Uj];decide) (.br (fun h=>?_) fun _=>gZ _ trivial)))))
   have h:=dX.1 h
   have hs:aD .i64 (i:Int) 1=((i-1:Nat):Int):=by rw [bM (by omega)];omega
   rw [hs]
   refine .gd (by rw [bn];omega) (.gd (by rw [bA,cJ,aF];omega) (Ok.fl (dR.2 ?_) (gZ _ trivial)))
   have:=xd (i-1) (by omega)
   have h2:=this aH
   show ¬fr≤Op.from (nth aH s.ops (i-1))
   have h2:Op.from (nth aH s.ops (i-1))<fr:=h2
   omega
  refine .jn ?_
  (repeat (first | refine Ok.kq (by decide) ?_ | refine Ok.fl (by decide) ?_))
  refine .jn ?_
  rcases lW with lW | ⟨en,lW,YL,DT⟩
  ·have lW:pt = -1:=lW
   subst lW
   (repeat (first | refine Ok.kq (by decide) ?_ | refine Ok.fl (by decide) ?_))
   refine Ok.fl (dR.2 (by omega)) ?_
   (repeat (first | refine Ok.kq (by decide) ?_ | refine Ok.fl (by decide) ?_))
   exact ih (m-1) _ (by omega) ⟨i+1,hx,by omega,⟨by show af .i64 a0 1=_;rw [c0,aS (by omega),t0];rfl,by show a1=_;rw [c1,t1];rfl,by show a2=_;rw [c2,t2];rfl,by show a3=_;rw [c3,t3];rfl⟩,.inr ⟨i,_,by omega,ho,rfl,.inr (by show (-1:Int)<0;decide)⟩,n1.up,n2.up,n3.up⟩
  ·have lW:pt=(en:Int):=lW
   have YK:=(zB.1 DT).1
   have KD:∀d,nth d lf (nN pt)=0:=fun d=>by rw [lW];exact bF DT
   refine Ok.kq (od.2 (by omega)) ?_
   (repeat (first | refine Ok.kq (by decide) ?_ | refine Ok.fl (by decide) ?_))
   refine Ok.fl (by simp [aw,ae]) (Ok.fl (dR.2 (by omega)) (Ok.kq (od.2 (by omega)) (Ok.fl (iV.2 (by omega)) (.gd (by rw [bn];omega) (.gd (by rw [bA,cJ,aF];omega) (Ok.fl (by rw [KD];decide) ?_))))))
   exact ih (m-1) _ (by omega) ⟨i+1,hx,by omega,⟨by show af .i64 a0 1=_;rw [c0,aS (by omega),t0];rfl,by show a1=_;rw [c1,t1];rfl,by show a2=_;rw [c2,t2];rfl,by show a3=_;rw [c3,t3];rfl⟩,.inr ⟨i,_,by omega,ho,rfl,.inl rfl⟩,n1.up,n2.up,n3.up⟩
 ·have hk:k=1:=gZ
  subst hk
  have k1:o1=1:=k1
  subst k1
  have hlen:P.length > 1:=rU
  have t0:eo ((keys s.ops).take (i+1)) 0=eo ((keys s.ops).take i) 0+0:=by rw [iX,if_neg (by decide)]
  have t1:eo ((keys s.ops).take (i+1)) 1=eo ((keys s.ops).take i) 1+1:=by rw [iX,if_pos rfl]
  have t2:eo ((keys s.ops).take (i+1)) 2=eo ((keys s.ops).take i) 2+0:=by rw [iX,if_neg (by decide)]
  have t3:eo ((keys s.ops).take (i+1)) 3=eo ((keys s.ops).take i) 3+0:=by rw [iX,if_neg (by decide)]
  have w_:∀d,nth d P (nN (1:Int))=pr:=Gy
  have Du:bf (nN (1:Int)) (len P):=by rw [bA,aF];exact hlen
  have KW:∀d,nth d pr (nN a1)=Ea:=fun d=>by rw [c1];exact GL d
  have KY:bc a1:=by rw [bn,c1];omega
  have GM:bf (nN a1) (len pr):=by rw [bA,aF,c1];exact Dr
  have hE:¬fr≤e1:=by
   rcases n1 with h | ⟨j,o',j1,j2,j3,j4⟩
   ·omega
   ·have:=GK j o' j1 j2 j3
    have h5:Op.to o' < fr:=this.2
    have h6:=this.1
    rcases j4 with j4 | j4<;>omega
  simp only [w_,KW]
  refine .gd Ux (.gd Uy (.l7 (fun _=>True) (fun u _=>?_) (fun kk gZ=>?_)))
  rotate_left
  ·(repeat (first | refine Ok.kq (by decide) ?_ | refine Ok.fl (by decide) ?_))
   refine Ok.fl (dR.2 (by omega)) ?_
   (repeat (first | refine Ok.kq (by decide) ?_ | refine Ok.fl (by decide) ?_))
   refine .gd (by decide) (.gd Du (Ok.fl (dR.2 (by rw [c1];omega)) (.gd (by decide) (.gd Du ?_))))
   (repeat (first | refine Ok.kq (by decide) ?_ | refine Ok.fl (by decide) ?_))
   exact .gd KY (.gd GM (Ok.fl (yU Ea) (gZ _ trivial)))
  refine .jn ?_
  (repeat (first | refine Ok.kq (by decide) ?_ | refine Ok.fl (by decide) ?_))
  refine .l7 (fun _=>True) (fun u _=>?_) (fun kk gZ=>?_)
  rotate_left
  ·(repeat (first | refine Ok.kq (by decide) ?_ | refine Ok.fl (by decide) ?_))
   refine Ok.fl (dR.2 hE) (Ok.fl (dR.2 (by omega)) (.gd (by rw [bn];omega) (.gd (by rw [bA,cJ,aF];omega) (Ok.fl (by rw [Uj];decide) (.br (fun h=>?_) fun _=>gZ _ trivial)))))
   have h:=dX.1 h
   have hs:aD .i64 (i:Int) 1=((i-1:Nat):Int):=by rw [bM (by omega)];omega
   rw [hs]
   refine .gd (by rw [bn];omega) (.gd (by rw [bA,cJ,aF];omega) (Ok.fl (dR.2 ?_) (gZ _ trivial)))
   have:=xd (i-1) (by omega)
   have h2:=this aH
   show ¬fr≤Op.from (nth aH s.ops (i-1))
   have h2:Op.from (nth aH s.ops (i-1))<fr:=h2
   omega
  refine .jn ?_
  (repeat (first | refine Ok.kq (by decide) ?_ | refine Ok.fl (by decide) ?_))
  refine .jn ?_
  rcases lW with lW | ⟨en,lW,YL,DT⟩
  ·have lW:pt = -1:=lW
   subst lW
   (repeat (first | refine Ok.kq (by decide) ?_ | refine Ok.fl (by decide) ?_))
   refine Ok.fl (dR.2 (by omega)) ?_
   (repeat (first | refine Ok.kq (by decide) ?_ | refine Ok.fl (by decide) ?_))
   exact ih (m-1) _ (by omega) ⟨i+1,hx,by omega,⟨by show a0=_;rw [c0,t0];rfl,by show af .i64 a1 1=_;rw [c1,aS (by omega),t1];rfl,by show a2=_;rw [c2,t2];rfl,by show a3=_;rw [c3,t3];rfl⟩,n0.up,.inr ⟨i,_,by omega,ho,rfl,.inr (by show (-1:Int)<0;decide)⟩,n2.up,n3.up⟩
  ·have lW:pt=(en:Int):=lW
   have YK:=(zB.1 DT).1
   have KD:∀d,nth d lf (nN pt)=1:=fun d=>by rw [lW];exact bF DT
   refine Ok.kq (od.2 (by omega)) ?_
   (repeat (first | refine Ok.kq (by decide) ?_ | refine Ok.fl (by decide) ?_))
   refine Ok.fl (by simp [aw,ae]) (Ok.fl (dR.2 (by omega)) (Ok.kq (od.2 (by omega)) (Ok.fl (iV.2 (by omega)) (.gd (by rw [bn];omega) (.gd (by rw [bA,cJ,aF];omega) (Ok.fl (by rw [KD];decide) ?_))))))
   exact ih (m-1) _ (by omega) ⟨i+1,hx,by omega,⟨by show a0=_;rw [c0,t0];rfl,by show af .i64 a1 1=_;rw [c1,aS (by omega),t1];rfl,by show a2=_;rw [c2,t2];rfl,by show a3=_;rw [c3,t3];rfl⟩,n0.up,.inr ⟨i,_,by omega,ho,rfl,.inl rfl⟩,n2.up,n3.up⟩
 ·have hk:k=2:=gZ
  subst hk
  have k1:o1=2:=k1
  subst k1
  have hlen:P.length > 2:=rU
  have t0:eo ((keys s.ops).take (i+1)) 0=eo ((keys s.ops).take i) 0+0:=by rw [iX,if_neg (by decide)]
  have t1:eo ((keys s.ops).take (i+1)) 1=eo ((keys s.ops).take i) 1+0:=by rw [iX,if_neg (by decide)]
  have t2:eo ((keys s.ops).take (i+1)) 2=eo ((keys s.ops).take i) 2+1:=by rw [iX,if_pos rfl]
  have t3:eo ((keys s.ops).take (i+1)) 3=eo ((keys s.ops).take i) 3+0:=by rw [iX,if_neg (by decide)]
  have w_:∀d,nth d P (nN (2:Int))=pr:=Gy
  have Du:bf (nN (2:Int)) (len P):=by rw [bA,aF];exact hlen
  have KW:∀d,nth d pr (nN a2)=Ea:=fun d=>by rw [c2];exact GL d
  have KY:bc a2:=by rw [bn,c2];omega
  have GM:bf (nN a2) (len pr):=by rw [bA,aF,c2];exact Dr
  have hE:¬fr≤e2:=by
   rcases n2 with h | ⟨j,o',j1,j2,j3,j4⟩
   ·omega
   ·have:=GK j o' j1 j2 j3
    have h5:Op.to o' < fr:=this.2
    have h6:=this.1
    rcases j4 with j4 | j4<;>omega
  simp only [w_,KW]
  refine .gd Ux (.gd Uy (.l7 (fun _=>True) (fun u _=>?_) (fun kk gZ=>?_)))
  rotate_left
  ·(repeat (first | refine Ok.kq (by decide) ?_ | refine Ok.fl (by decide) ?_))
   refine Ok.fl (dR.2 (by omega)) ?_
   (repeat (first | refine Ok.kq (by decide) ?_ | refine Ok.fl (by decide) ?_))
   refine .gd (by decide) (.gd Du (Ok.fl (dR.2 (by rw [c2];omega)) (.gd (by decide) (.gd Du ?_))))
   (repeat (first | refine Ok.kq (by decide) ?_ | refine Ok.fl (by decide) ?_))
   exact .gd KY (.gd GM (Ok.fl (yU Ea) (gZ _ trivial)))
  refine .jn ?_
  (repeat (first | refine Ok.kq (by decide) ?_ | refine Ok.fl (by decide) ?_))
  refine .l7 (fun _=>True) (fun u _=>?_) (fun kk gZ=>?_)
  rotate_left
  ·(repeat (first | refine Ok.kq (by decide) ?_ | refine Ok.fl (by decide) ?_))
   refine Ok.fl (dR.2 hE) (Ok.fl (dR.2 (by omega)) (.gd (by rw [bn];omega) (.gd (by rw [bA,cJ,aF];omega) (Ok.fl (by rw [Uj];decide) (.br (fun h=>?_) fun _=>gZ _ trivial)))))
   have h:=dX.1 h
   have hs:aD .i64 (i:Int) 1=((i-1:Nat):Int):=by rw [bM (by omega)];omega
   rw [hs]
   refine .gd (by rw [bn];omega) (.gd (by rw [bA,cJ,aF];omega) (Ok.fl (dR.2 ?_) (gZ _ trivial)))
   have:=xd (i-1) (by omega)
   have h2:=this aH
   show ¬fr≤Op.from (nth aH s.ops (i-1))
   have h2:Op.from (nth aH s.ops (i-1))<fr:=h2
   omega
  refine .jn ?_
  (repeat (first | refine Ok.kq (by decide) ?_ | refine Ok.fl (by decide) ?_))
  refine .jn ?_
  rcases lW with lW | ⟨en,lW,YL,DT⟩
  ·have lW:pt = -1:=lW
   subst lW
   (repeat (first | refine Ok.kq (by decide) ?_ | refine Ok.fl (by decide) ?_))
   refine Ok.fl (dR.2 (by omega)) ?_
   (repeat (first | refine Ok.kq (by decide) ?_ | refine Ok.fl (by decide) ?_))
   exact ih (m-1) _ (by omega) ⟨i+1,hx,by omega,⟨by show a0=_;rw [c0,t0];rfl,by show a1=_;rw [c1,t1];rfl,by show af .i64 a2 1=_;rw [c2,aS (by omega),t2];rfl,by show a3=_;rw [c3,t3];rfl⟩,n0.up,n1.up,.inr ⟨i,_,by omega,ho,rfl,.inr (by show (-1:Int)<0;decide)⟩,n3.up⟩
  ·have lW:pt=(en:Int):=lW
   have YK:=(zB.1 DT).1
   have KD:∀d,nth d lf (nN pt)=2:=fun d=>by rw [lW];exact bF DT
   refine Ok.kq (od.2 (by omega)) ?_
   (repeat (first | refine Ok.kq (by decide) ?_ | refine Ok.fl (by decide) ?_))
   refine Ok.fl (by simp [aw,ae]) (Ok.fl (dR.2 (by omega)) (Ok.kq (od.2 (by omega)) (Ok.fl (iV.2 (by omega)) (.gd (by rw [bn];omega) (.gd (by rw [bA,cJ,aF];omega) (Ok.fl (by rw [KD];decide) ?_))))))
   exact ih (m-1) _ (by omega) ⟨i+1,hx,by omega,⟨by show a0=_;rw [c0,t0];rfl,by show a1=_;rw [c1,t1];rfl,by show af .i64 a2 1=_;rw [c2,aS (by omega),t2];rfl,by show a3=_;rw [c3,t3];rfl⟩,n0.up,n1.up,.inr ⟨i,_,by omega,ho,rfl,.inl rfl⟩,n3.up⟩
 ·have hk:k=3:=gZ
  subst hk
  have k1:o1=3:=k1
  subst k1
  have hlen:P.length > 3:=rU
  have t0:eo ((keys s.ops).take (i+1)) 0=eo ((keys s.ops).take i) 0+0:=by rw [iX,if_neg (by decide)]
  have t1:eo ((keys s.ops).take (i+1)) 1=eo ((keys s.ops).take i) 1+0:=by rw [iX,if_neg (by decide)]
  have t2:eo ((keys s.ops).take (i+1)) 2=eo ((keys s.ops).take i) 2+0:=by rw [iX,if_neg (by decide)]
  have t3:eo ((keys s.ops).take (i+1)) 3=eo ((keys s.ops).take i) 3+1:=by rw [iX,if_pos rfl]
  have w_:∀d,nth d P (nN (3:Int))=pr:=Gy
  have Du:bf (nN (3:Int)) (len P):=by rw [bA,aF];exact hlen
  have KW:∀d,nth d pr (nN a3)=Ea:=fun d=>by rw [c3];exact GL d
  have KY:bc a3:=by rw [bn,c3];omega
  have GM:bf (nN a3) (len pr):=by rw [bA,aF,c3];exact Dr
  have hE:¬fr≤e3:=by
   rcases n3 with h | ⟨j,o',j1,j2,j3,j4⟩
   ·omega
   ·have:=GK j o' j1 j2 j3
    have h5:Op.to o' < fr:=this.2
    have h6:=this.1
    rcases j4 with j4 | j4<;>omega
  simp only [w_,KW]
  refine .gd Ux (.gd Uy (.l7 (fun _=>True) (fun u _=>?_) (fun kk gZ=>?_)))
  rotate_left
  ·(repeat (first | refine Ok.kq (by decide) ?_ | refine Ok.fl (by decide) ?_))
   refine Ok.fl (dR.2 (by omega)) ?_
   (repeat (first | refine Ok.kq (by decide) ?_ | refine Ok.fl (by decide) ?_))
   refine .gd (by decide) (.gd Du (Ok.fl (dR.2 (by rw [c3];omega)) (.gd (by decide) (.gd Du ?_))))
   (repeat (first | refine Ok.kq (by decide) ?_ | refine Ok.fl (by decide) ?_))
   exact .gd KY (.gd GM (Ok.fl (yU Ea) (gZ _ trivial)))
  refine .jn ?_
  (repeat (first | refine Ok.kq (by decide) ?_ | refine Ok.fl (by decide) ?_))
  refine .l7 (fun _=>True) (fun u _=>?_) (fun kk gZ=>?_)
  rotate_left
  ·(repeat (first | refine Ok.kq (by decide) ?_ | refine Ok.fl (by decide) ?_))
   refine Ok.fl (dR.2 hE) (Ok.fl (dR.2 (by omega)) (.gd (by rw [bn];omega) (.gd (by rw [bA,cJ,aF];omega) (Ok.fl (by rw [Uj];decide) (.br (fun h=>?_) fun _=>gZ _ trivial)))))
   have h:=dX.1 h
   have hs:aD .i64 (i:Int) 1=((i-1:Nat):Int):=by rw [bM (by omega)];omega
   rw [hs]
   refine .gd (by rw [bn];omega) (.gd (by rw [bA,cJ,aF];omega) (Ok.fl (dR.2 ?_) (gZ _ trivial)))
   have:=xd (i-1) (by omega)
   have h2:=this aH
   show ¬fr≤Op.from (nth aH s.ops (i-1))
   have h2:Op.from (nth aH s.ops (i-1))<fr:=h2
   omega
  refine .jn ?_
  (repeat (first | refine Ok.kq (by decide) ?_ | refine Ok.fl (by decide) ?_))
  refine .jn ?_
  rcases lW with lW | ⟨en,lW,YL,DT⟩
  ·have lW:pt = -1:=lW
   subst lW
   (repeat (first | refine Ok.kq (by decide) ?_ | refine Ok.fl (by decide) ?_))
   refine Ok.fl (dR.2 (by omega)) ?_
   (repeat (first | refine Ok.kq (by decide) ?_ | refine Ok.fl (by decide) ?_))
   exact ih (m-1) _ (by omega) ⟨i+1,hx,by omega,⟨by show a0=_;rw [c0,t0];rfl,by show a1=_;rw [c1,t1];rfl,by show a2=_;rw [c2,t2];rfl,by show af .i64 a3 1=_;rw [c3,aS (by omega),t3];rfl⟩,n0.up,n1.up,n2.up,.inr ⟨i,_,by omega,ho,rfl,.inr (by show (-1:Int)<0;decide)⟩⟩
  ·have lW:pt=(en:Int):=lW
   have YK:=(zB.1 DT).1
   have KD:∀d,nth d lf (nN pt)=3:=fun d=>by rw [lW];exact bF DT
   refine Ok.kq (od.2 (by omega)) ?_
   (repeat (first | refine Ok.kq (by decide) ?_ | refine Ok.fl (by decide) ?_))
   refine Ok.fl (by simp [aw,ae]) (Ok.fl (dR.2 (by omega)) (Ok.kq (od.2 (by omega)) (Ok.fl (iV.2 (by omega)) (.gd (by rw [bn];omega) (.gd (by rw [bA,cJ,aF];omega) (Ok.fl (by rw [KD];decide) ?_))))))
   exact ih (m-1) _ (by omega) ⟨i+1,hx,by omega,⟨by show a0=_;rw [c0,t0];rfl,by show a1=_;rw [c1,t1];rfl,by show a2=_;rw [c2,t2];rfl,by show af .i64 a3 1=_;rw [c3,aS (by omega),t3];rfl⟩,n0.up,n1.up,n2.up,.inr ⟨i,_,by omega,ho,rfl,.inl rfl⟩⟩
open Go.Bm Go.oQ
abbrev TSu:Type:=(Int×Unit)×((List Int×Unit)×(Unit×(Unit×Ds)))
set_option maxHeartbeats 4000000 in
theorem BH {C:WC} {P:List (List lS)} {w0:WS} (a1:List Int) (hb:∀x∈a1,0≤x∧x≤255) (v0:TOp→Option ((Bool×Unit)×(T0×(T1×(T2×(T3×(T4×(T5×(T6×(T7×(T2×(T9×Unit)))))))))))) (v1:TFt) (v3:TNw) (D:Ds) (hp:1≤v1.1.1.2.1∧v1.1.1.2.1≤4)
  (H0:WI 0 C w0 v3.2.2.2.2.2.2.1 D) (hM0:TM P w0 []) (h1:w0.st=0) (h2:w0.ops=[])
  (hK:∀(n:Nat) (s:WS) (lf:List Int) (D:Ds),WI n C s v3.2.2.2.2.2.2.1 D→TM P s lf→s.ops.length≤1000→lf.length≤1000→Er (v0 ((),((lf,()),((),((),D)))))) :
  Er (loop (g.eH a1 v0 v1 C.wi v3) ((0,()),(([],()),((),((),D))))):=by
 refine .loop (fun m (z:TSu)=>∃(k n:Nat) (s:WS),z.1.1=(k:Int)∧k+m=300∧n≤k∧WI n C s v3.2.2.2.2.2.2.1 z.2.2.2.2∧s.st≤n∧s.ops.length≤n∧TM P s z.2.1.1) (fun m z gg hI ih=>?_) (N:=300) (by unfold lQ;omega) ⟨0,0,w0,rfl,rfl,Nat.le_refl _,H0,by omega,by rw [h2];exact Nat.le_refl _,hM0⟩
 obtain ⟨k,n,s,z1,z2,z3,H,z5,z6,hM⟩:=hI
 have hwl:z.2.1.1.length≤n:=by rw [←hM.st];exact z5
 unfold g.eH
 rw [z1]
 simp only [gw]
 have done:Er (v0 ((),((z.2.1.1,()),((),((),z.2.2.2.2))))):=hK n s _ _ H hM (by omega) (by omega)
 refine .l7 (fun _=>k<a1.length∧k<300) (fun u hu=>?_) fun kk gZ=>.br (fun e=>.br (fun e2=>gZ _ ⟨by have:=dX.1 e;omega,by have:=dX.1 e2;omega⟩) fun _=>done) fun _=>done
 obtain ⟨u1,u2⟩:=hu
 have ek:nN (k:Int)=k:=rfl
 have hx:af .i64 (k:Int) 1=((k+1:Nat):Int):=by rw [aS (by omega)];rfl
 have hby:=hb _ (List.getElem_mem u1)
 have eT:dq (dt .i64 (nth 0 a1 (nN (k:Int)))) v1.1.1.2.1=a1[k]%v1.1.1.2.1:=by
  rw [ek,fE u1,fT (by omega),cM (by omega)]
 have Mh:=Int.emod_nonneg a1[k] (show v1.1.1.2.1≠0 by omega)
 have hT2:=Int.emod_lt_of_pos a1[k] (show 0<v1.1.1.2.1 by omega)
 refine .gd (by rw [bn];omega) (.gd (by rw [bA,aF,ek];exact u1) (.gd (by unfold EN;omega) ?_))
 rw [eT]
 generalize a1[k]%v1.1.1.2.1=T at Mh hT2
 refine .bd (Hw H (by omega) z5 z6 T (by omega)) fun cz h12=>.br (fun e=>?_) fun e=>?_
 ·have e:=cU.1 e
  rcases h12 with ⟨hD,hr⟩ | ⟨hr,k',t,s',Bj,ht,he,hS,H',_⟩
  ·exfalso
   rcases hr with ⟨_,h⟩ | ⟨_,_,_,_,_,h⟩<;>(rw [h] at e;exact absurd e (by decide))
  ·subst Bj
   have hM':=hM.step ht hS
   have pQ:s'.st=s.st+1:=by obtain ⟨_,_,_,_,h,_⟩:=hS;exact h
   have mg:s'.ops.length≤s.ops.length+1:=by
    obtain ⟨t1,fh,r',hB,h1,h2⟩:=hS
    have hl:fh.length≤s.ops.length+1:=by
     rcases hB with ⟨_,_,rfl⟩ | ⟨_,c,cs,r,_,_,_,rfl⟩
     ·omega
     ·rw [zY];exact Nat.le_refl _
    rcases h2 with ⟨_,ho,_⟩ | ⟨_,_,_,_,_,_,_,_,_,ho,_⟩
    ·rw [ho];exact hl
    ·rw [ho,zM];exact hl
   refine .gd ?_ (ih (m-1) _ (by omega) ⟨k+1,n+1,s',hx,by omega,by omega,H',by omega,by omega,hM'⟩)
   rw [dh];show len z.2.1.1+1≤_;rw [aF];omega
 ·have e:=cY.1 e
  rcases h12 with ⟨hD,hr⟩ | ⟨hr,_⟩
  ·refine ih (m-1) _ (by omega) ⟨k+1,n,s,hx,by omega,by omega,?_,z5,z6,hM⟩
   show WI n C s v3.2.2.2.2.2.2.1 cz.2
   rw [hD];exact H
  ·exact absurd hr e
abbrev Shown:Prop:=Ok (g.cn [] [] [] [] [] [] [] [] [] []) (fun r=>r.1.1=true)
theorem TM.new (p:mE) (P:List (List lS)) (b:Nat):TM P (TK p P b) []:=by
 have no:∀(j:Nat) (o:pK),(TK p P b).ops[j]?=some o→False:=fun j o h=>by cases h
 refine ⟨rfl,fun j o h=>(no j o h).elim,fun i j o o' _ h=>(no i o h).elim,fun i j o o' _ h=>(no i o h).elim,fun k t _ _ j o h=>(no j o h).elim,fun j x h=>?_,fun k t h=>?_⟩
 ·have h:([]:List (Int×lS))[j]?=some x:=h
  cases h
 ·obtain ⟨rfl,_⟩:=BE h
  show P.getD k []=(P.getD k []).drop 0
  rw [List.drop_zero]
theorem rE (hs:Shown) (c:mE×(List (List oK)×List (List lS))) (a1:List Int) (mg:∀l∈c.2.1,∀o∈l,0≤o.1) (vA:∀l∈c.2.2,pn l) (hb:∀x∈a1,0≤x∧x≤255) :
  Er (g.fq c a1 [] [] [] [] [] [] [] [] [] []):=by
 unfold g.fq
 refine .bd hs fun p0 h0=>.bd (K7 c mg vA) fun p1 h1=>?_
 obtain ⟨f1,f2,f3⟩:=h1
 have Gy:=fa.1 f1
 have hlen:=f3.1
 refine .bd (LZ f1 f2 f3 _ _ _ _ _ _ _ _ _ _) fun p2 h2=>?_
 obtain ⟨n1,n2,C,n3,n4,H⟩:=h2
 refine .gG n1 (.l7 (fun _=>True) (fun u _=>?_) fun kk gZ=>.br (fun e=>?_) fun _=>.br (fun e=>?_) fun _=>gZ _ trivial)
 ·rw [←n3]
  refine .l7 (fun wq=>∃(n:Nat) (s:WS),WI n C s p2.2.2.2.2.2.2.1 wq.2.2.2.2∧TM p1.1.2.2.1 s wq.2.1.1∧s.ops.length≤1000∧wq.2.1.1.length≤1000) (fun wq Wo=>?_) fun kk gZ=>BH a1 hb kk p1 p2 _ (by omega) H (TM.new _ _ _) rfl rfl fun n s lf D a b d e=>gZ _ ⟨n,s,a,b,d,e⟩
  obtain ⟨n,s,a,b,d,e⟩:=Wo
  refine .bd (LY a (by omega)) fun lr h21=>BI lr wq p2 p1 a b h21 rfl rfl (by omega) (fun pr h=>(f3.2 pr h).1) e d
 ·rw [h0] at e;cases e
 ·have e:=cY.1 (pF.1 e);exact absurd n2 e
end Go.Proofs.YtfffmmahegdfiaaGreat