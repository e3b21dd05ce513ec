/- Texts of one proof, put together: see each part. -/
import Derived.KernelRfl
import Derived.Deep.Slices
import Derived.WideShapes
import Derived.ChangeArms
import Derived.Deep.OwnRows
import Derived.WideKeyArgs
import Derived.OpenShut
import Derived.Carry
import Derived.Test.YtfffmmahegdfiaaGreatKD
set_option maxHeartbeats 2000000
noncomputable section
set_option linter.unusedVariables false
set_option linter.unusedSimpArgs false
namespace Go.Proofs.YtfffmmahegdfiaaGreat
open Go.Bm Go.ny
theorem cQ {l:List (Int×Bool)} (hl:l.length≤100) (p:qa) (w:Int):Ok (g.b6 p l w) (fun _=>True):=by
 unfold g.b6
 exact .bd (cI _) fun q _=>.uK (fun _=>True) (fun s _=>.br (fun _=>.some trivial) fun _=>.ij (qA _ (by omega)) (.br (fun _=>.some trivial) fun _=>.some trivial)) fun k hk=>.br (fun _=>hk _ trivial) fun _=>hk _ trivial
theorem cP {l:List (Int×Bool)} (hl:l.length≤100) (s b:Int):Ok (g.hB l s b) (fun _=>True):=⟨_,qB s b (by omega),trivial⟩
end Go.Proofs.YtfffmmahegdfiaaGreat
namespace Go.ny
open Go.Bm
def NW (o:nz):Prop:=(0≤o.1∧o.1≤4)∧(0≤o.2.1∧o.2.1≤99)∧(0≤o.2.2∧o.2.2≤8)
def NV (l:List nz):Prop:=l.length≤8∧∀o∈l,NW o
def BK (l:List (List nz)):Prop:=l.length≤8∧∀x∈l,NV x
end Go.ny
namespace Go.Proofs.YtfffmmahegdfiaaGreat
open Go.Bm Go.ny
section
variable (a0:List nz) (a1:Int) (a2:List Int)
end
open Go.Bm Go.ny
def QV (fo:Option Nat) (d9:T9):Prop:=∃fW,BK fW∧((fo=none∧fW=[])∨∃jf,fo=some jf∧aY d9 jf=some fW)
end Go.Proofs.YtfffmmahegdfiaaGreat
namespace Go.ny
open Go.Bm
def J3 (x:Xt):Prop:=0≤x.1∧0≤x.2∧x.1+x.2≤131072
end Go.ny
namespace Go.Proofs.YtfffmmahegdfiaaGreat
open Go.Bm Go.ny
theorem HS {α:Type} {x y r:Option α} (k:y=r) (h:x=y:=by (first | with_reducible exact (g8 _ _) | with_reducible exact cM | with_reducible exact cz | with_reducible exact fy | with_reducible exact (GF (by assumption)) | with_reducible exact (GD (by assumption)) | with_reducible exact (QL (by assumption)) | with_reducible exact (EE (by assumption)) | with_reducible exact dX | with_reducible exact dE | with_reducible exact jd | with_reducible exact iZ | with_reducible exact i_ | with_reducible exact ja | with_reducible exact je | with_reducible exact jb | with_reducible exact ep | with_reducible exact Jl | (with_reducible apply lq;with_reducible (first | exact aK _ _ _ | assumption | exact db (by assumption) | exact db (db (by assumption)) | exact db (db (db (by assumption))) | exact db (db (db (db (by assumption)))) | exact db (db (db (db (db (by assumption))))))) | (with_reducible refine fJ ?qh;case qh=>first | omega | (simp (disch:=omega) only [bE,eg,eO,gC,ic,eN,fE,jM,bF,lS,h_,aL,ay,zE,List.length_nil,zO,zR,zH,nE,nW,lC,xZ,iI,zM]<;>omega)) | (with_reducible refine eX ?qh;case qh=>first | omega | (simp (disch:=omega) only [bE,eg,eO,gC,ic,eN,fE,jM,bF,lS,h_,aL,ay,zE,List.length_nil,zO,zR,zH,nE,nW,lC,xZ,iI,zM]<;>omega)) | (with_reducible refine fK ?qh;case qh=>first | omega | (simp (disch:=omega) only [bE,eg,eO,gC,ic,eN,fE,jM,bF,lS,h_,aL,ay,zE,List.length_nil,zO,zR,zH,nE,nW,lC,xZ,iI,zM]<;>omega)) | (with_reducible refine fL ?qh;case qh=>first | omega | (simp (disch:=omega) only [bE,eg,eO,gC,ic,eN,fE,jM,bF,lS,h_,aL,ay,zE,List.length_nil,zO,zR,zH,nE,nW,lC,xZ,iI,zM]<;>omega)) | (with_reducible refine bC ?qh;case qh=>first | omega | (simp (disch:=omega) only [bE,eg,eO,gC,ic,eN,fE,jM,bF,lS,h_,aL,ay,zE,List.length_nil,zO,zR,zH,nE,nW,lC,xZ,iI,zM]<;>omega)) | (with_reducible refine bD ?qh;case qh=>first | omega | (simp (disch:=omega) only [bE,eg,eO,gC,ic,eN,fE,jM,bF,lS,h_,aL,ay,zE,List.length_nil,zO,zR,zH,nE,nW,lC,xZ,iI,zM]<;>omega)))):x=r:=h.trans k
def QU (r2:T3) (r4:T4) (gr:Nat) (fr en:Int) (l:List Xt):Prop:=∃fo:Option Nat,r2[gr]?=some (fr,(en,fo))∧((fo=none∧l=[])∨∃j,fo=some j∧aY r4 j=some l)
theorem Hr {α:Type} {l:List α} {i:Nat} {y x:α} (h:l[i]?=some y):(aZ l i x)[i]?=some x:=by
 unfold aZ
 rw [List.getElem?_set,if_pos rfl,if_pos (zB.1 h).1]
open Go.Bm Go.ny
open Go.Bm Go.ny
def GI (n:Nat) (d3:T3) (d4:T4) (gr:Nat):Prop:=∃fr en l,QU d3 d4 gr fr en l∧(0≤fr∧0≤en∧en≤131072)∧(∀x∈l,J3 x)∧l.length≤n+1
theorem A9 {n:Int} (h:0≤n):gM n 8=n%8:=eN h
open Go.Bm Go.ny
theorem eB {α:Type} (l:List α):zN (len l)=(l.length:Int):=by rw [jM,bF]
theorem Ct {l:List (Int×Bool)} (hl:l.length≤100):g.bo l=some ((l,()),()):=by
 unfold g.bo
 rw [nV (show bw (aL 0 (len l)) 16777216 by rw [gx,bF];show 0+_≤_;omega)]
 rfl
open Go.Bm Go.ny
abbrev n9:Type:=Int×(Int×(Int×(Int×(Int×(Int×Int)))))
abbrev QS (o:Int):Prop:=o=1∨o=7∨o=8∨o=10
structure Jx (n:Nat) (r:U1):Prop where
 run:QR n r
 make:Rn.op r=2→Rn.pc r=1→1≤r.1.2.2.2.2.1∧r.1.2.2.2.2.1≤8192
 dq:QS (Rn.op r)→Rn.pc r≠0∨Rn.code r=0→r.1.2.1<4
structure SD (n:Nat) (r r':U1):Prop where
 sp:SP n r r'
 code:Rn.pc r=0→Rn.code r'=Rn.code r
 once:Rn.pc r=0→Rn.done r'=true
open Go.Bm Go.ny
abbrev yU:Type:=List n9×(Option Nat×(List (Int×Bool)×(U1×(Bool×Int))))
abbrev RO:Type:=Int×(n9×(Int×(Int×(Int×(Int×(Int×List Int))))))
abbrev Th.calls (t:yU):List n9:=t.1
abbrev Th.gI (t:yU):List (Int×Bool):=t.2.2.1
abbrev Th.run (t:yU):U1:=t.2.2.2.1
abbrev Th.busy (t:yU):Bool:=t.2.2.2.2.1
abbrev Th.at (t:yU):Int:=t.2.2.2.2.2
abbrev Op.to (o:RO):Int:=o.2.2.2.2.1
abbrev Op.qO (o:RO):Int:=o.2.2.2.1
structure WC where
 wi:Nat
 a:Nat
 gr:Nat
 th:Nat
 j:Nat
 m:Nat
 p:qa
 fo:Option Nat
 ts:List Nat
 rs:List Nat
structure WS where
 ops:List RO
 st:Nat
 tl:List yU
 rg:List (List Int)
abbrev Ds:Type:=T0×(T1×(T2×(T3×(T4×(T6×(T7×(T2×(T9×Unit))))))))
structure TI (n k:Nat) (ops:List RO) (t:yU):Prop where
 gI:(Th.gI t).length≤6
 calls:(Th.calls t).length≤64
 args:∀c∈Th.calls t,0≤c.2.1∧0≤c.2.2.1∧0≤c.2.2.2.1
 busy:Th.busy t=true→Jx n (Th.run t)∧0≤(Th.run t).1.2.1∧∃q:Nat,Th.at t=(q:Int)∧∃o,ops[q]?=some o∧o.1=(k:Int)∧o.2.1=(Th.run t).1∧Op.to o = -1∧Op.qO o = -1
structure WI (n:Nat) (C:WC) (s:WS) (c5:T5) (D:Ds):Prop where
 world:∃oo,D.1[C.wi]?=some (C.p,(C.fo,(some C.a,(some C.gr,(some C.th,(oo,(s.st:Int)))))))∧((oo=none∧s.ops=[])∨∃jo,oo=some jo∧aY D.2.2.2.2.2.2.1 jo=some s.ops)
 ar:AR D.2.1 D.2.2.1 C.a C.j C.m
 gi:GI n D.2.2.2.1 D.2.2.2.2.1 C.gr
 fW:QV C.fo D.2.2.2.2.2.2.2.2.1
 scopes:C.p.1≤100
 rows:aY c5 C.th=some (C.ts.map some)
 four:C.ts.length≤4
 Tf:s.tl.length=C.ts.length
 Zu:s.rg.length=C.ts.length
 Z8:∀(i k:Nat) x,C.ts[i]?=some x→C.ts[k]?=some x→i=k
 aag:∀(i k:Nat) x,C.rs[i]?=some x→C.rs[k]?=some x→i=k
 said:∀o∈s.ops,o.2.2.2.2.2.2.2.length≤10000
 RT:∀(k:Nat) t,s.tl[k]?=some t→∃id rr w,C.ts[k]?=some id∧D.2.2.2.2.2.1[id]?=some t∧t.2.1=some rr∧C.rs[k]?=some rr∧s.rg[k]?=some w∧aY D.2.2.2.2.2.2.2.1 rr=some w∧w.length=4∧TI n k s.ops t
def pQ (t:yU):Bool:=!(Th.busy t) && decide ((Th.calls t).length=0)
theorem Eu {d6:T6} {id:Nat} {t:yU} (h:d6[id]?=some t) (d8:T2):g.bf id d6 d8=some ((pQ t,()),()):=by
 unfold g.bf pQ
 rw [cO h]
 cases hb:Th.busy t with
 | true=>
  have hb:t.2.2.2.2.1=true:=hb
  rw [hb];rfl
 | false=>
  have hb:t.2.2.2.2.1=false:=hb
  rw [hb]
  show some ((aj (zN (len t.1)) 0,()),())=_
  rw [eB]
  unfold aj
  show some ((decide ((t.1.length:Int)=0),()),())=some ((decide (t.1.length=0),()),())
  congr 3
  simp
theorem Y5 {α:Type} {d:α} {l:List α} {i:Nat} {x:α} (h:l[i]?=some x) (f:α→α):ah d l i f=l.set i (f x):=by unfold ah aZ;rw [cO h]
open Go.Bm Go.ny
open Go.Bm Go.ny
theorem xR {α:Type} {d x:α} {l:List α}:nth d (cat l [x]) (len l)=x:=AD
def bu (o:nz):Prop:=(o.1=0∧0≤o.2.1∧o.2.1≤99∧o.2.2=0)∨(o.1=1∧0≤o.2.1∧o.2.1≤5∧o.2.2=0)∨(o.1=2∧0≤o.2.1∧o.2.1≤5∧0≤o.2.2∧o.2.2≤5)∨(o.1=3∧0≤o.2.1∧o.2.1≤5∧0≤o.2.2∧o.2.2≤8)∨(o.1=4∧o.2.1=0∧o.2.2=0)
def gV (f:List (List nz)):Prop:=f.length≤8∧∀l∈f,l.length≤8∧∀o∈l,bu o
theorem gV.ok {f:List (List nz)} (h:gV f):BK f:=⟨h.1,fun l hl=>⟨(h.2 l hl).1,fun o ho=>by
 have:=(h.2 l hl).2 o ho
 unfold bu at this;unfold NW;omega⟩⟩
theorem uj {f:List (List nz)} {i:Nat} {l:List nz} (hl:nth [] f i=l) (h8:l.length≤8) (ho:∀o∈l,bu o) (v1) :
  loop (g.dC f (((i:Int),()),((),((),((),())))) v1) ((0,()),((),((),((),()))))=v1 (((ae IntKind.i64 (i:Int) 1),()),((),((),((),())))):=by
 refine (rS (fun k=>((((k:Nat):Int),()),((),((),((),()))))) (fun _=>v1 (((ae IntKind.i64 (i:Int) 1),()),((),((),((),()))))) l.length (by unfold nh;omega) (fun K=>?_) (fun k hk=>.inr ⟨rfl,fun K=>?_⟩))
 ·unfold g.dC
  dsimp only
  rw [show nth [] f (nN (i:Int))=l from hl]
  repeat refine HS ?_
  rfl
 ·have hp:=ho l[k] (List.getElem_mem hk)
  have e:∀d,nth d l (nN (k:Int))=l[k]:=fun d=>fh hk
  unfold g.dC
  dsimp only
  rw [show nth [] f (nN (i:Int))=l from hl]
  rw [e]
  generalize l[k]=o at *
  have ei:ae IntKind.i64 (k:Int) 1=((k+1:Nat):Int):=by rw [bE (by omega)];omega
  have ew:cN IntKind.i64 o.1=o.1:=gC (by unfold bu at hp;omega)
  rw [ei,ew]
  obtain ⟨op,a,b⟩:=o
  unfold bu at hp
  dsimp only at hp ⊢
  have wT:∀x lo hi:Int,lo≤x→x≤hi→within x lo hi=true:=fun x lo hi h1 h2=>jD.2 ⟨h1,h2⟩
  rcases hp with ⟨rfl,h1,h2,rfl⟩ | ⟨rfl,h1,h2,rfl⟩ | ⟨rfl,h1,h2,h3,h4⟩ | ⟨rfl,h1,h2,h3,h4⟩ | ⟨rfl,rfl,rfl⟩
  ·have w1:=wT a 0 99 (by omega) (by omega)
   have w2:=wT 0 0 0 (by omega) (by omega)
   repeat refine HS ?_
   rfl
  ·have w1:=wT a 0 5 (by omega) (by omega)
   have w2:=wT 0 0 0 (by omega) (by omega)
   repeat refine HS ?_
   rfl
  ·have w1:=wT a 0 5 (by omega) (by omega)
   have w2:=wT b 0 5 (by omega) (by omega)
   repeat refine HS ?_
   rfl
  ·have w1:=wT a 0 5 (by omega) (by omega)
   have w2:=wT b 0 8 (by omega) (by omega)
   repeat refine HS ?_
   rfl
  ·have w2:=wT 0 0 0 (by omega) (by omega)
   repeat refine HS ?_
   rfl
theorem ui {f:List (List nz)} (h:gV f):g.gy f=some ((true,()),()):=by
 have h8:=h.1
 unfold g.gy
 refine (rS (fun k=>((((k:Nat):Int),()),((),((),((),()))))) (fun _=>some ((true,()),())) f.length (by unfold nh;omega) (fun K=>?_) (fun k hk=>.inr ⟨rfl,fun K=>?_⟩))
 ·unfold g.fT
  dsimp only
  repeat refine HS ?_
  have:b9 (zN (len f)) 8=true:=decide_eq_true (by rw [jM,bF];omega)
  rw [this]
 ·have hl:=h.2 f[k] (List.getElem_mem hk)
  unfold g.fT
  dsimp only
  repeat refine HS ?_
  refine Eq.trans (uj (fh hk) hl.1 hl.2 K) ?_
  have ei:ae IntKind.i64 (k:Int) 1=((k+1:Nat):Int):=by rw [bE (by omega)];omega
  rw [ei]
theorem sq {r2:T3} {r4:T4} {a n:Int} (ha:0≤a∧a≤65536∧a%8=0) (hn:0≤n∧n≤65536∧n%8=0) :
  ∃Zl Zk,g.eP a n r2 r4=some (((some r2.length),(0,())),(Zl,(Zk,())))∧QU Zl Zk r2.length a (a+n) (if 0<n then [(a,n)] else []):=by
 have w1:within a 0 65536=true:=jD.2 ⟨ha.1,ha.2.1⟩
 have w2:within n 0 65536=true:=jD.2 ⟨hn.1,hn.2.1⟩
 have hb:=(wq (a:=a) (b:=n) (by omega) (by omega)).2 ⟨ha.2.2,hn.2.2⟩
 have es:ae IntKind.i64 a n=a+n:=bE (by omega)
 by_cases h0:0<n
 ·rw [if_pos h0]
  refine ⟨?r2,?r4,?eq,?rel⟩
  case eq=>
   unfold g.eP
   repeat refine HS ?_
   rfl
  case rel=>
   rw [es]
   refine ⟨some r4.length,?_,.inr ⟨_,rfl,jN⟩⟩
   unfold ah
   rw [xR]
   exact Hr (by show (r2++[_])[r2.length]?=_;simp;rfl)
 ·rw [if_neg h0]
  refine ⟨?s2,?s4,?eq2,?rel2⟩
  case eq2=>
   unfold g.eP
   repeat refine HS ?_
   rfl
  case rel2=>
   rw [es]
   exact ⟨none,by show (r2++[_])[r2.length]?=_;simp,.inl ⟨rfl,rfl⟩⟩
open Go.Bm Go.ny
theorem sr {p:qa} (hp:dn p=true) (d1:T1) (d2:T2) (d3:T3) (d4:T4):Ok (g.iD p d1 d2 d3 d4) (fun r=>r.1.1=some d1.length∧r.1.2.1=some d3.length∧(∃m,AR r.2.1 r.2.2.1 d1.length d2.length m)∧GI 0 r.2.2.2.1 r.2.2.2.2.1 d3.length):=by
 have h:=fa.1 hp
 have e1:g.iA p=some ((p.1*64+p.2.2.1+p.2.2.2,(0,())),()):=by
  unfold g.iA
  rw [lq (oc hp),bE (by dsimp only;omega)]
 have hN:0≤p.1*64+p.2.2.1+p.2.2.2∧p.1*64+p.2.2.1+p.2.2.2≤65536∧(p.1*64+p.2.2.1+p.2.2.2)%8=0:=by omega
 generalize hM:p.1*64+p.2.2.1+p.2.2.2=M at e1 hN
 have e2:g.iG M d1 d2=some (((some d1.length),(0,())),((cat d1 [some d2.length]),((cat d2 [some (rep (α:=Int) (nN M) 0)]),()))):=by
  unfold g.iG
  rw [lq (aK _ _ _)]
  have:within M 0 65536=true:=cn.2 (by omega)
  rw [this]
  show br (ax (aj (gM M 8) 0)) _ _=_
  have:aj (gM M 8) 0=true:=fV.2 (by rw [A9 (by omega)];omega)
  rw [this]
  show gd (bq M) _=_
  rw [nV (show bq M by rw [dt];omega),nV (show bw (nN M) 16777216 by rw [gx,h_];omega)]
  rfl
 have hA:AR (cat d1 [some d2.length]) (cat d2 [some (rep (α:=Int) (nN M) 0)]) d1.length d2.length M.toNat:=⟨by show (d1++[_])[d1.length]?=_;simp,by omega,_,jN,by show (List.replicate _ _).length=_;rw [List.length_replicate];rfl⟩
 obtain ⟨r3,r4,e3,hG⟩:=sq (r2:=d3) (r4:=d4) (a:=p.1*64+p.2.2.1) (n:=p.2.2.2) (by omega) (by omega)
 have hGI:GI 0 r3 r4 d3.length:=by
  refine ⟨_,_,_,hG,by omega,?_,?_⟩
  ·intro x hx
   split at hx
   ·rw [zF] at hx;subst hx;unfold J3;dsimp only;omega
   ·cases hx
  ·split
   ·exact Nat.le_refl _
   ·exact Nat.zero_le _
 unfold g.iD
 refine .ij e1 (.br (fun e=>nomatch (show false=true from e)) fun _=>.ij e2 (.mn rfl (.ij (oc hp) (.ij e3 (.mn rfl (.ij (kH hp) (.bd (dF hA _ _ _) fun w hw=>.bd (cr hw _ _ _ _) fun w hw=>.bd (cr hw _ _ _ _) fun w hw=>.some ⟨rfl,rfl,⟨_,hw⟩,hGI⟩)))))))
theorem B5 {α:Type} {d x:α} {l:List α}:nth d (cat l [x]) (len l)=x:=cO (by show (l++[x])[l.length]?=_;simp)
theorem B4 {α:Type} {d x:α} {l:List α} (f:α→α):ah d (cat l [x]) (len l) f=cat l [f x]:=by
 rw [Y5 (show (cat l [x])[len l]?=some x by show (l++[x])[l.length]?=_;simp)]
 show (l++[x]).set l.length (f x)=l++[f x]
 rw [List.set_append_right _ _ (Nat.le_refl _),Nat.sub_self];rfl
theorem Ho {l:List nz} (hl:l.length≤100):g.dy l=some ((l,()),()):=by
 unfold g.dy
 rw [nV (show bw (aL 0 (len l)) 16777216 by rw [gx,bF];show 0+_≤_;omega)]
 rfl
theorem QX {l:List n9} (hl:l.length≤100):g.eZ l=some ((l,()),()):=by
 unfold g.eZ
 rw [nV (show bw (aL 0 (len l)) 16777216 by rw [gx,bF];show 0+_≤_;omega)]
 rfl
def SU:U1:=((0,(0,(0,(0,(0,(0,0)))))),(0,(0,(0,(0,([],(0,(0,(0,(0,([],(0,([],(0,(false,(false,(false,(0,(0,[])))))))))))))))))))
def L1 (aO:List (List n9)) (b i:Nat):yU:=(aO.getD i [],(some (b+i),([],(SU,(false,0)))))
def yJ (aO:List (List n9)) (b k:Nat):List yU:=(List.range k).map (L1 aO b)
theorem te (aO:List (List n9)) (b k:Nat):yJ aO b (k+1)=yJ aO b k++[L1 aO b k]:=by unfold yJ;rw [List.range_succ,List.map_append];rfl
theorem mI (aO:List (List n9)) (b k:Nat):(yJ aO b k).length=k:=by unfold yJ;rw [zH,List.length_range]
def ids (b k:Nat):List Nat:=(List.range k).map (fun i=>b+i)
theorem Bb (b k:Nat):ids b (k+1)=ids b k++[b+k]:=by unfold ids;rw [List.range_succ,List.map_append];rfl
theorem lG (b k:Nat):(ids b k).length=k:=by unfold ids;rw [zH,List.length_range]
theorem sb {b k i x:Nat} (h:(ids b k)[i]?=some x):x=b+i∧i<k:=by
 have hi:i<k:=by have:=(zB.1 h).1;rw [lG] at this;exact this
 unfold ids at h
 rw [zL,List.getElem?_range hi] at h
 cases h
 exact ⟨rfl,hi⟩
theorem wP {b k i:Nat} (h:i<k):(ids b k)[i]?=some (b+i):=by
 unfold ids
 rw [zL,List.getElem?_range h];rfl
theorem y9 {aO:List (List n9)} {b k i:Nat} {t:yU} (h:(yJ aO b k)[i]?=some t):t=L1 aO b i∧i<k:=by
 have hi:i<k:=by have:=(zB.1 h).1;rw [mI] at this;exact this
 unfold yJ at h
 rw [zL,List.getElem?_range hi] at h
 cases h
 exact ⟨rfl,hi⟩
def Dh (p:qa) (aO:List (List n9)):Prop:=(aO.length:Int)≤p.2.1∧∀l∈aO,l.length≤64∧∀c∈l,0≤c.2.1∧0≤c.2.2.1∧0≤c.2.2.2.1
def E0 (p:qa) (aO:List (List n9)) (b:Nat):WS:=⟨[],0,yJ aO b p.2.1.toNat,List.replicate p.2.1.toNat [0,0,0,0]⟩
def xh (p:qa) (aO:List (List n9)) (c7:T7) (d0:T0) (d7:T2) (r:(Option Nat×(Int×Unit))×(T0×(T1×(T2×(T3×(T4×(T5×(T6×(T2×(T9×Unit)))))))))):Prop:=
 r.1.1=some d0.length∧r.1.2.1=0∧∃C:WC,C.wi=d0.length∧C.ts.length=p.2.1.toNat∧WI 0 C (E0 p aO d7.length) r.2.2.2.2.2.2.1 (r.2.1,(r.2.2.1,(r.2.2.2.1,(r.2.2.2.2.1,(r.2.2.2.2.2.1,(r.2.2.2.2.2.2.2.1,(c7,(r.2.2.2.2.2.2.2.2.1,(r.2.2.2.2.2.2.2.2.2.1,())))))))))
set_option maxHeartbeats 2000000 in
theorem JA {p:qa} (hp:dn p=true) {fW:List (List nz)} (hf:gV fW) {aO:List (List n9)} (hq:Dh p aO) (c7:T7) (d0:T0) (d1:T1) (d2:T2) (d3:T3) (d4:T4) (d5:T5) (d6:T6) (d7:T2) (d9:T9) :
  Ok (g.fN p fW aO c7 d0 d1 d2 d3 d4 d5 d6 d7 d9) (xh p aO c7 d0 d7):=by
 have TO:=fa.1 hp
 have hf8:=hf.1
 obtain ⟨q1,q2⟩:=hq
 unfold g.fN
 refine .uK (fun _=>True) (fun s _=>?_) fun kk ko=>.ij (cp p) (.br (fun e=>?_) fun _=>.ij (ui hf) (.br (fun e=>absurd e (by decide)) fun _=>.br (fun e=>?_) fun _=>?_))
 rotate_left
 ·have e:ax (dn p)=true:=e
  rw [hp] at e;cases e
 ·have:=eA.1 e
  rw [eB] at this;omega
 ·refine .loop (fun m s=>∃k:Nat,s.1.1=(k:Int)∧k+m=aO.length) (fun m s gg hI ih=>?_) (N:=aO.length) (by unfold nh;omega) ⟨0,rfl,by omega⟩
  obtain ⟨k,h1,h2⟩:=hI
  unfold g.gD
  rw [eB,h1]
  refine .br (fun hb=>?_) fun _=>ko _ trivial
  have hb:=eA.1 hb
  have ek:nN (k:Int)=k:=rfl
  refine .gd (by rw [dt];omega) (.gd (by rw [ey,bF,ek];omega) (.br (fun e=>?_) fun _=>ih (m-1) _ (by omega) ⟨k+1,?_,by omega⟩))
  ·have e:=eA.1 e
   rw [eB,ek,fh (show k<aO.length by omega)] at e
   have:=(q2 _ (List.getElem_mem (show k<aO.length by omega))).1
   omega
  ·show ae .i64 (k:Int) 1=_;rw [bE (by omega)];rfl
 refine .bd (sr hp d1 d2 d3 d4) fun v hv=>?_
 obtain ⟨v1,v2,⟨ma,v3⟩,v4⟩:=hv
 refine .mn v1 (.mn v2 ?_)
 refine .loop (fun m s=>∃(k:Nat) (fo:Option Nat),s.1.1=(k:Int)∧k+m=fW.length∧s.2.2.2.2.1=cat d0 [(p,(fo,(some d1.length,(some d3.length,(none,(none,0))))))]∧((fo=none∧k=0)∨∃jf,fo=some jf∧aY s.2.2.2.2.2.1 jf=some (fW.take k))) (fun m s gg hI ih=>?_) (N:=fW.length) (by unfold nh;omega) ⟨0,none,rfl,by omega,rfl,.inl ⟨rfl,rfl⟩⟩
 obtain ⟨k,fo,h1,h2,h3,h4⟩:=hI
 unfold g.cG
 rw [eB,h1,h3]
 simp only [B5,B4]
 refine .br (fun hb=>?_) fun hb=>?_
 ·have hb:=eA.1 hb
  have ek:nN (k:Int)=k:=rfl
  have hk:k<fW.length:=by omega
  have en:nth [] fW (nN (k:Int))=fW[k]:=by rw [ek];exact fh hk
  have oB:(fW[k]).length≤100:=by have:=(hf.2 _ (List.getElem_mem hk)).1;omega
  have hi:ae .i64 (k:Int) 1=((k+1:Nat):Int):=by rw [bE (by omega)];rfl
  rw [en]
  refine .gd (by rw [dt];omega) (.gd (by rw [ey,bF,ek];exact hk) ?_)
  rcases h4 with ⟨rfl,rfl⟩ | ⟨jf,rfl,hj⟩
  ·refine .Dt rfl (.ij (Ho oB) (.gd (by rw [gx,bF];show 1≤_;omega) (ih (m-1) _ (by omega) ⟨1,some (len s.2.2.2.2.2.1),hi,by omega,rfl,.inr ⟨_,rfl,?_⟩⟩)))
   show aY (cat _ _) _=_
   rw [show (len s.2.2.2.2.2.1)=List.length s.2.2.2.2.2.1 from rfl,jN]
   congr 1
   rw [List.take_succ_eq_append_getElem hk];rfl
  ·refine .mn rfl (.ij (Ho oB) (.ij hj (.gd ?_ (.gd (by rw [ey,bF];exact u7 hj) (ih (m-1) _ (by omega) ⟨k+1,some (len (aZ s.2.2.2.2.2.1 jf none)),hi,by omega,rfl,.inr ⟨_,rfl,?_⟩⟩)))))
   ·rw [gx];show len (fW.take k)+1≤_;rw [bF,List.length_take];omega
   ·show aY (cat _ _) _=_
    rw [show (len (aZ s.2.2.2.2.2.1 jf none))=List.length (aZ s.2.2.2.2.2.1 jf none) from rfl,jN]
    congr 1
    rw [List.take_succ_eq_append_getElem hk];rfl
 have hb:=g6.1 hb
 have hk:k=fW.length:=by omega
 have hF:QV fo s.2.2.2.2.2.1:=by
  refine ⟨fW,hf.ok,?_⟩
  rcases h4 with ⟨rfl,h0⟩ | ⟨jf,rfl,hj⟩
  ·exact .inl ⟨rfl,zZ (by omega)⟩
  ·rw [hk,List.take_length] at hj
   exact .inr ⟨jf,rfl,hj⟩
 clear ih hb h4
 have hT:∃n:Nat,p.2.1=(n:Int)∧1≤n∧n≤4:=⟨p.2.1.toNat,by omega,by omega,by omega⟩
 obtain ⟨nt,Ix,n1,n4⟩:=hT
 refine .loop (fun m z=>∃(i:Nat) (Q2:Option Nat),z.1.1=(i:Int)∧i+m=nt∧z.2.2.2.2.1=cat d0 [(p,(fo,(some d1.length,(some d3.length,(Q2,(none,0))))))]∧z.2.2.2.2.2.2.1=d6++yJ aO d7.length i∧z.2.2.2.2.2.2.2.1=d7++List.replicate i (some [0,0,0,0])∧((Q2=none∧i=0)∨∃th,Q2=some th∧aY z.2.2.2.2.2.1 th=some ((ids d6.length i).map some))) (fun m z gg hI ih=>?_) (N:=nt) (by unfold nh;omega) ⟨0,none,rfl,by omega,rfl,by show d6=d6++[];simp,by show d7=d7++[];simp,.inl ⟨rfl,rfl⟩⟩
 obtain ⟨i,Q2,i1,i2,i3,i4,i5,i6⟩:=hI
 unfold g.ik
 rw [i1,i3,Ix]
 simp only [B5,B4]
 have e6:len z.2.2.2.2.2.2.1=d6.length+i:=by rw [i4,bF,zY,mI]
 have e7:len z.2.2.2.2.2.2.2.1=d7.length+i:=by rw [i5,bF,zY,List.length_replicate]
 refine .br (fun hb=>?_) fun hb=>.some ?_
 ·have hb:=eA.1 hb
  have hi:ae .i64 (i:Int) 1=((i+1:Nat):Int):=by rw [bE (by omega)];rfl
  refine .uK (fun y=>y.2.2.2.2.1=d6++yJ aO d7.length (i+1)) (fun y hy=>?_) fun kk ko=>.br (fun e=>?_) fun e=>ko _ ?_
  ·have key:∀(W8:T5) (j:Nat),aY W8 j=some ((ids d6.length (i+1)).map some)→Ok (gg (((ae .i64 (i:Int) 1),()),((),((),((),(cat d0 [(p,(fo,(some d1.length,(some d3.length,(some j,(none,0))))))],(W8,(y.2.2.2.2.1,(cat z.2.2.2.2.2.2.2.1 [some (rep (α:=Int) 4 0)],()))))))))) (xh p aO c7 d0 d7):=by
    intro W8 j hT5
    refine ih (m-1) _ (by omega) ⟨i+1,some j,hi,by omega,rfl,hy,?_,.inr ⟨j,rfl,hT5⟩⟩
    show cat _ _=_
    rw [i5,List.replicate_succ',←List.append_assoc];rfl
   rcases i6 with ⟨rfl,rfl⟩ | ⟨th,rfl,Ro⟩
   ·refine .Dt rfl (.gd (by rw [gx,bF];show 1≤_;omega) (key _ (len z.2.2.2.2.2.1) ?_))
    rw [show (len z.2.2.2.2.2.1)=List.length z.2.2.2.2.2.1 from rfl,jN,e6]
    rfl
   ·refine .mn rfl (.ij Ro (.gd ?_ (.gd (by rw [ey,bF];exact u7 Ro) (key _ (len (aZ z.2.2.2.2.2.1 th none)) ?_))))
    ·rw [gx];show len ((ids d6.length i).map some)+1≤_;rw [bF,zH,lG];omega
    ·rw [show (len (aZ z.2.2.2.2.2.1 th none))=List.length (aZ z.2.2.2.2.2.1 th none) from rfl,jN,e6,Bb,List.map_append]
     rfl
  ·have e:=eA.1 e
   rw [eB] at e
   have ek:nN (i:Int)=i:=rfl
   have Rx:i<aO.length:=by omega
   have oB:(aO[i]).length≤100:=by have:=(q2 _ (List.getElem_mem Rx)).1;omega
   refine .gd (by rw [dt];omega) (.gd (by rw [ey,bF,ek];exact Rx) ?_)
   rw [ek,fh Rx]
   refine .ij (QX oB) (ko _ ?_)
   show cat _ _=_
   rw [i4,e7,te,←List.append_assoc]
   unfold L1
   rw [zA,zD Rx]
   rfl
  ·have e:=g6.1 e
   rw [eB] at e
   show cat _ _=_
   rw [i4,e7,te,←List.append_assoc]
   unfold L1
   rw [zA,zb (by omega)]
   rfl
 ·have hb:=g6.1 hb
  have hi:i=nt:=by omega
  subst hi
  rcases i6 with ⟨_,h0⟩ | ⟨th,rfl,Ro⟩
  ·omega
  have en:p.2.1.toNat=i:=by omega
  refine ⟨rfl,rfl,⟨d0.length,d1.length,d3.length,th,d2.length,ma,p,fo,ids d6.length i,ids d7.length i⟩,rfl,by rw [lG,en],?_⟩
  unfold E0
  rw [en]
  refine ⟨⟨none,?_,.inl ⟨rfl,rfl⟩⟩,v3,v4,hF,by show p.1≤100;omega,Ro,by rw [lG];exact n4,by rw [mI,lG],by rw [List.length_replicate,lG],fun a b x h h'=>by have:=sb h;have:=sb h';omega,fun a b x h h'=>by have:=sb h;have:=sb h';omega,fun o ho=>(nomatch ho),?_⟩
  ·show (d0++[_])[d0.length]?=_;simp
  ·intro k t ZK
   dsimp only at ZK ⊢
   obtain ⟨rfl,hk⟩:=y9 ZK
   refine ⟨d6.length+k,d7.length+k,[0,0,0,0],wP hk,?_,rfl,wP hk,by rw [List.getElem?_replicate,if_pos hk],?_,rfl,?_⟩
   ·rw [i4,zJ (Nat.le_add_right _ _),Nat.add_sub_cancel_left]
    unfold yJ
    rw [zL,List.getElem?_range hk];rfl
   ·rw [GA,i5,zJ (Nat.le_add_right _ _),Nat.add_sub_cancel_left,List.getElem?_replicate,if_pos hk]
   ·have hm:∀l,aO[k]?=some l→l∈aO:=fun l h=>zG h
    have hg:aO.getD k []=[]∨aO.getD k []∈aO:=by
     rw [zA]
     cases h:aO[k]? with
     | none=>exact .inl rfl
     | some l=>exact .inr (hm l h)
    refine ⟨by show 0≤6;omega,?_,?_,fun h=>by cases h⟩
    ·show (aO.getD k []).length≤64
     rcases hg with h | h
     ·rw [h];exact Nat.zero_le _
     ·exact (q2 _ h).1
    ·show ∀c∈aO.getD k [],_
     rcases hg with h | h
     ·rw [h];intro c hc;cases hc
     ·exact (q2 _ h).2
open Go.Bm Go.ny
section
variable {n:Nat} {C:WC} {s:WS} {c5:T5} {D:Ds}
theorem QY {l:List Int} (hl:l.length≤1000000):g.cw l=some ((l,()),()):=by
 unfold g.cw
 rw [nV (show bw (aL 0 (len l)) 16777216 by rw [gx,bF];show 0+_≤_;omega)]
 rfl
theorem Jz (H:WI n C s c5 D) (oA:s.ops.length≤10000):Ok (g.cW C.wi D.1 D.2.1 D.2.2.1 D.2.2.2.1 D.2.2.2.2.1 c5 D.2.2.2.2.2.1 D.2.2.2.2.2.2.1 D.2.2.2.2.2.2.2.1 D.2.2.2.2.2.2.2.2.1) (fun r=>r.1.1=s.ops):=by
 obtain ⟨oo,hw,hoo⟩:=H.world
 have e0:∀d,nth d D.1 C.wi=(C.p,(C.fo,(some C.a,(some C.gr,(some C.th,(oo,(s.st:Int))))))):=fun d=>cO hw
 have hsd:=H.said
 unfold g.cW
 simp only [e0]
 refine .uK (fun z=>z.2.1.1=s.ops) (fun z hz=>?_) fun kk ko=>?_
 ·refine .loop (fun m y=>∃i:Nat,y.1.1=(i:Int)∧i+m=s.ops.length∧y.2.1.1=s.ops) (fun m y gg hI ih=>?_) (N:=s.ops.length) (by unfold nh;omega) ⟨0,rfl,by omega,hz⟩
  obtain ⟨i,h1,h2,h3⟩:=hI
  unfold g.eH
  rw [hz,h1,h3,eB]
  refine .br (fun hb=>?_) fun hb=>.some rfl
  have hb:=eA.1 hb
  have ei:nN (i:Int)=i:=rfl
  have hi:i<s.ops.length:=by omega
  have en:∀d,nth d s.ops (nN (i:Int))=s.ops[i]:=fun d=>fh hi
  have hx:ae .i64 (i:Int) 1=((i+1:Nat):Int):=by rw [bE (by omega)];rfl
  have hg:bx (nN (i:Int)) (len s.ops):=by rw [ey,bF,ei];exact hi
  simp only [en]
  have hs:=hsd _ (List.getElem_mem hi)
  refine .gd (by rw [dt];omega) (.gd hg (.ij (QY (by omega)) (.gd (by rw [dt];omega) (.gd hg (ih (m-1) _ (by omega) ⟨i+1,hx,by omega,?_⟩)))))
  dsimp only
  rw [Y5 (show s.ops[nN (i:Int)]?=some s.ops[i] from zD hi)]
  exact List.set_getElem_self hi
 ·rcases hoo with ⟨rfl,Bk⟩ | ⟨jo,rfl,hj⟩
  ·exact .Dt rfl (ko _ Bk.symm)
  ·exact .mn rfl (.ij hj (.gd (by rw [gx,bF];omega) (ko _ rfl)))
end
open Go.Bm Go.ny
def mi (s:WS) (c:Int):List Int:=if 0≤c then (s.rg[c.toNat]?).getD [] else []
def pP (s:WS) (c:Int):List (Int×Bool):=if 0≤c then ((s.tl[c.toNat]?).map Th.gI).getD [] else []
section
variable {n:Nat} {C:WC} {s:WS} {c5:T5} {D:Ds}
theorem ET (H:WI n C s c5 D):g.fk C.wi D.1 D.2.1 D.2.2.1 D.2.2.2.1 D.2.2.2.2.1 c5 D.2.2.2.2.2.1 D.2.2.2.2.2.2.1 D.2.2.2.2.2.2.2.1 D.2.2.2.2.2.2.2.2.1=some (((s.st:Int),()),()):=by
 obtain ⟨oo,hw,_⟩:=H.world
 unfold g.fk
 rw [cO hw]
theorem Cl (H:WI n C s c5 D) (c:Int):g.dZ C.wi c D.1 D.2.1 D.2.2.1 D.2.2.2.1 D.2.2.2.2.1 c5 D.2.2.2.2.2.1 D.2.2.2.2.2.2.1 D.2.2.2.2.2.2.2.1 D.2.2.2.2.2.2.2.2.1=some ((mi s c,()),()):=by
 obtain ⟨oo,hw,_⟩:=H.world
 have e0:∀d,nth d D.1 C.wi=(C.p,(C.fo,(some C.a,(some C.gr,(some C.th,(oo,(s.st:Int))))))):=fun d=>cO hw
 have lb:=H.rows
 have hlen:zN (len (C.ts.map some))=(C.ts.length:Int):=by rw [eB,zH]
 have h4:=H.four;have h5:=H.Tf;have h6:=H.Zu
 unfold g.dZ
 simp only [e0]
 rw [cz,lq lb,lq (aK _ _ _),hlen,eg (by omega)]
 cases hb:within c 0 ((C.ts.length:Int)-1) with
 | false=>
  have hn:¬(0≤c∧c≤(C.ts.length:Int)-1):=fun h=>by rw [cn.2 h] at hb;cases hb
  show some (([],()),())=_
  unfold mi
  by_cases h0:0≤c
  ·rw [if_pos h0,zb (by omega)];rfl
  ·rw [if_neg h0]
 | true=>
  have hb:=cn.1 hb
  obtain ⟨k,rfl⟩:∃k:Nat,c=(k:Int):=⟨c.toNat,by omega⟩
  have hk:k<s.tl.length:=by omega
  obtain ⟨id,rr,w,a1,a2,a3,a4,a5,a6,a7,a8⟩:=H.RT k _ (zD hk)
  have Ix:nth none (C.ts.map some) (nN (k:Int))=some id:=by
   show nth none (C.ts.map some) k=some id
   exact cO (by rw [zL,a1];rfl)
  refine Eq.trans (EE rfl) ?_
  rw [cz,lq lb,nV (show bq (k:Int) by rw [dt];omega),nV (show bx (nN (k:Int)) (len (C.ts.map some)) by rw [ey,bF,zH];show k<_;omega),lq lb,Ix,cz,cO a2,a3,cz,lq a6]
  rw [nV (show bx 0 (len w) by rw [ey,bF];omega),lq a6,nV (show bw (aL 0 (len w)) 16777216 by rw [gx,bF];show 0+_≤_;omega)]
  unfold mi
  rw [if_pos (by omega),zE,a5]
  rfl
theorem yH (H:WI n C s c5 D) (c:Int):g.dU C.wi c D.1 D.2.1 D.2.2.1 D.2.2.2.1 D.2.2.2.2.1 c5 D.2.2.2.2.2.1 D.2.2.2.2.2.2.1 D.2.2.2.2.2.2.2.1 D.2.2.2.2.2.2.2.2.1=some ((pP s c,()),()):=by
 obtain ⟨oo,hw,_⟩:=H.world
 have e0:∀d,nth d D.1 C.wi=(C.p,(C.fo,(some C.a,(some C.gr,(some C.th,(oo,(s.st:Int))))))):=fun d=>cO hw
 have lb:=H.rows
 have hlen:zN (len (C.ts.map some))=(C.ts.length:Int):=by rw [eB,zH]
 have h4:=H.four;have h5:=H.Tf;have h6:=H.Zu
 unfold g.dU
 simp only [e0]
 rw [cz,lq lb,lq (aK _ _ _),hlen,eg (by omega)]
 cases hb:within c 0 ((C.ts.length:Int)-1) with
 | false=>
  have hn:¬(0≤c∧c≤(C.ts.length:Int)-1):=fun h=>by rw [cn.2 h] at hb;cases hb
  show some (([],()),())=_
  unfold pP
  by_cases h0:0≤c
  ·rw [if_pos h0,zb (by omega)];rfl
  ·rw [if_neg h0]
 | true=>
  have hb:=cn.1 hb
  obtain ⟨k,rfl⟩:∃k:Nat,c=(k:Int):=⟨c.toNat,by omega⟩
  have hk:k<s.tl.length:=by omega
  obtain ⟨id,rr,w,a1,a2,a3,a4,a5,a6,a7,a8⟩:=H.RT k _ (zD hk)
  have Ix:nth none (C.ts.map some) (nN (k:Int))=some id:=by
   show nth none (C.ts.map some) k=some id
   exact cO (by rw [zL,a1];rfl)
  refine Eq.trans (EE rfl) ?_
  rw [cz,lq lb,nV (show bq (k:Int) by rw [dt];omega),nV (show bx (nN (k:Int)) (len (C.ts.map some)) by rw [ey,bF,zH];show k<_;omega),lq lb,Ix,cz,cO a2]
  have a9:=a8.gI
  rw [lq (Ct (show ((s.tl[k]).2.2.1).length≤100 by have:(Th.gI s.tl[k]).length≤6:=a9;show (Th.gI s.tl[k]).length≤100;omega))]
  unfold pP
  rw [if_pos (by omega),zE,zD hk]
  rfl
end
open Go.Bm Go.ny
theorem Ok.q9 {α:Type} {c:Bool} {x y:Option α} {P:α→Prop} (h:c=true) (k:Ok x P):Ok (br c x y) P:=by rw [h];exact k
theorem Ok.xc {α:Type} {c:Bool} {x y:Option α} {P:α→Prop} (h:c=false) (k:Ok y P):Ok (br c x y) P:=by rw [h];exact k
theorem fZ {a b c:Int}:within a b c=false↔¬(b≤a∧a≤c):=by
 rw [←cn];cases within a b c<;>simp
def mP (l:List nz):Prop:=l.length≤8∧∀o∈l,bu o
def tJ (l:List nz):Prop:=l.length≤100∧∀o∈l,0≤o.1∧o.1≤255
theorem OO {β:Type} {f:List (List nz)} {i:Int} {l:List nz} (hl:nth [] f (nN i)=l) (hi:tJ l) (v1:((Int×Unit)×(Unit×(Unit×(Unit×Unit))))→Option ((Bool×Unit)×Unit)) {P:((Bool×Unit)×Unit)→Prop}
  (hT:mP l→Ok (v1 (((ae .i64 i 1),()),((),((),((),()))))) P) (hF:¬mP l→P ((false,()),())) :
  Ok (loop (g.dC f ((i,()),((),((),((),())))) v1) ((0,()),((),((),((),()))))) P:=by
 refine .loop (fun m z=>∃k:Nat,z.1.1=(k:Int)∧k+m=l.length∧∀(j:Nat) o,j<k→l[j]?=some o→bu o) (fun m z gg hI ih=>?_) (N:=l.length) (by have:=hi.1;unfold nh;omega) ⟨0,rfl,by omega,fun j o h=>by omega⟩
 obtain ⟨k,h1,h2,h3⟩:=hI
 have hlen:=hi.1
 unfold g.dC
 dsimp only
 rw [h1,hl]
 simp only [eB]
 refine .br (fun hb=>?_) fun hb=>.br (fun e=>.some (hF fun h=>?_)) fun e=>hT ⟨?_,fun o ho=>?_⟩
 rotate_left
 ·have:=eA.1 e;have:=h.1;omega
 ·have:=g6.1 e;omega
 ·have hb:=g6.1 hb
  obtain ⟨j,hj⟩:=List.getElem?_of_mem ho
  have:=(zB.1 hj).1
  exact h3 j o (by omega) hj
 have hb:=eA.1 hb
 have hk:k<l.length:=by omega
 have ho:=zD hk
 have sf:=List.getElem_mem hk
 have hr:=hi.2 _ sf
 have hn:∀d,nth d l (nN (k:Int))=l[k]:=fun d=>fh hk
 have hx:ae .i64 (k:Int) 1=((k+1:Nat):Int):=by rw [bE (by omega)];rfl
 simp only [hn]
 generalize l[k]=o at *
 obtain ⟨op,a,b⟩:=o
 dsimp only at hr ⊢
 have next:bu (op,(a,b))→Ok (gg (((ae .i64 (k:Int) 1),()),((),((),((),()))))) P:=fun h=>ih (m-1) _ (by omega) ⟨k+1,hx,by omega,fun j o hj h4=>by
  by_cases Br:j=k
  ·subst Br;rw [ho] at h4;cases h4;exact h
  ·exact h3 j o (by omega) h4⟩
 have bad:¬bu (op,(a,b))→P ((false,()),()):=fun h=>hF fun h'=>h (h'.2 _ sf)
 refine .gd (by rw [dt];omega) (.gd (by rw [ey,bF];exact hk) ?_)
 by_cases h5:5≤op
 ·refine Ok.q9 (by rw [gC (by omega)];exact jW.2 h5) (.some (bad fun h=>?_))
  unfold bu at h;dsimp only at h;omega
 have oA:op=0∨op=1∨op=2∨op=3∨op=4:=by omega
 rcases oA with rfl | rfl | rfl | rfl | rfl
 ·(repeat (first | refine Ok.q9 (by decide) ?_ | refine Ok.xc (by decide) ?_))
  refine .ij (aK _ _ _) (.br (fun h=>.some (bad fun h'=>?_)) fun h=>?_)
  ·have h:=fZ.1 (jV.1 h)
   unfold bu at h';dsimp only at h';omega
  have h:=cn.1 (gw.1 h)
  (repeat (first | refine Ok.q9 (by decide) ?_ | refine Ok.xc (by decide) ?_))
  refine .ij (aK _ _ _) (.br (fun h2=>.some (bad fun h'=>?_)) fun h2=>next ?_)
  ·have h2:=fZ.1 (jV.1 h2)
   unfold bu at h';dsimp only at h';omega
  have h2:=cn.1 (gw.1 h2)
  unfold bu;dsimp only;omega
 ·(repeat (first | refine Ok.q9 (by decide) ?_ | refine Ok.xc (by decide) ?_))
  refine .ij (aK _ _ _) (.br (fun h=>.some (bad fun h'=>?_)) fun h=>?_)
  ·have h:=fZ.1 (jV.1 h)
   unfold bu at h';dsimp only at h';omega
  have h:=cn.1 (gw.1 h)
  (repeat (first | refine Ok.q9 (by decide) ?_ | refine Ok.xc (by decide) ?_))
  refine .ij (aK _ _ _) (.br (fun h2=>.some (bad fun h'=>?_)) fun h2=>next ?_)
  ·have h2:=fZ.1 (jV.1 h2)
   unfold bu at h';dsimp only at h';omega
  have h2:=cn.1 (gw.1 h2)
  unfold bu;dsimp only;omega
 ·(repeat (first | refine Ok.q9 (by decide) ?_ | refine Ok.xc (by decide) ?_))
  refine .ij (aK _ _ _) (.br (fun h=>.some (bad fun h'=>?_)) fun h=>?_)
  ·have h:=fZ.1 (jV.1 h)
   unfold bu at h';dsimp only at h';omega
  have h:=cn.1 (gw.1 h)
  (repeat (first | refine Ok.q9 (by decide) ?_ | refine Ok.xc (by decide) ?_))
  refine .ij (aK _ _ _) (.br (fun h2=>.some (bad fun h'=>?_)) fun h2=>next ?_)
  ·have h2:=fZ.1 (jV.1 h2)
   unfold bu at h';dsimp only at h';omega
  have h2:=cn.1 (gw.1 h2)
  unfold bu;dsimp only;omega
 ·(repeat (first | refine Ok.q9 (by decide) ?_ | refine Ok.xc (by decide) ?_))
  refine .ij (aK _ _ _) (.br (fun h=>.some (bad fun h'=>?_)) fun h=>?_)
  ·have h:=fZ.1 (jV.1 h)
   unfold bu at h';dsimp only at h';omega
  have h:=cn.1 (gw.1 h)
  (repeat (first | refine Ok.q9 (by decide) ?_ | refine Ok.xc (by decide) ?_))
  refine .ij (aK _ _ _) (.br (fun h2=>.some (bad fun h'=>?_)) fun h2=>next ?_)
  ·have h2:=fZ.1 (jV.1 h2)
   unfold bu at h';dsimp only at h';omega
  have h2:=cn.1 (gw.1 h2)
  unfold bu;dsimp only;omega
 ·(repeat (first | refine Ok.q9 (by decide) ?_ | refine Ok.xc (by decide) ?_))
  refine .ij (aK _ _ _) (.br (fun h=>.some (bad fun h'=>?_)) fun h=>?_)
  ·have h:=fZ.1 (jV.1 h)
   unfold bu at h';dsimp only at h';omega
  have h:=cn.1 (gw.1 h)
  (repeat (first | refine Ok.q9 (by decide) ?_ | refine Ok.xc (by decide) ?_))
  refine .ij (aK _ _ _) (.br (fun h2=>.some (bad fun h'=>?_)) fun h2=>next ?_)
  ·have h2:=fZ.1 (jV.1 h2)
   unfold bu at h';dsimp only at h';omega
  have h2:=cn.1 (gw.1 h2)
  unfold bu;dsimp only;omega
theorem sB {f:List (List nz)} (hl:f.length≤100) (hf:∀l∈f,tJ l):Ok (g.gy f) (fun r=>r.1.1=true↔gV f):=by
 unfold g.gy
 refine .loop (fun m z=>∃k:Nat,z.1.1=(k:Int)∧k+m=f.length∧∀(j:Nat) l,j<k→f[j]?=some l→mP l) (fun m z gg hI ih=>?_) (N:=f.length) (by unfold nh;omega) ⟨0,rfl,by omega,fun j o h=>by omega⟩
 obtain ⟨k,h1,h2,h3⟩:=hI
 obtain ⟨⟨iz,⟨⟩⟩,⟨⟩,⟨⟩,⟨⟩,⟨⟩⟩:=z
 have h1:iz=(k:Int):=h1
 subst h1
 unfold g.fT
 dsimp only
 simp only [eB]
 refine .br (fun hb=>?_) fun hb=>.some ?_
 ·have hb:=eA.1 hb
  have hk:k<f.length:=by omega
  have ho:=zD hk
  have hx:ae .i64 (k:Int) 1=((k+1:Nat):Int):=by rw [bE (by omega)];rfl
  refine .gd (by rw [dt];omega) (.gd (by rw [ey,bF];exact hk) (OO (β:=Unit) (fh hk) (hf _ (List.getElem_mem hk)) gg (fun h=>ih (m-1) _ (by omega) ⟨k+1,hx,by omega,fun j l hj h4=>?_⟩) fun h=>⟨fun e=>(by cases e),fun h'=>absurd (h'.2 _ (List.getElem_mem hk)) h⟩))
  by_cases Br:j=k
  ·subst Br;rw [ho] at h4;cases h4;exact h
  ·exact h3 j l (by omega) h4
 ·have hb:=g6.1 hb
  show b9 (f.length:Int) 8=true↔_
  rw [jW]
  refine ⟨fun h=>⟨by omega,fun l hl=>?_⟩,fun h=>by have:=h.1;omega⟩
  obtain ⟨j,hj⟩:=List.getElem?_of_mem hl
  have:=(zB.1 hj).1
  exact h3 j l (by omega) hj
open Go.Bm Go.ny
theorem o8 (p:qa):Ok (g.eK p) (fun r=>r.1.1=true↔dn p=true):=by
 obtain ⟨a,b,c,d⟩:=p
 unfold g.eK
 dsimp only
 rw [fa]
 dsimp only
 have no:∀{P:Prop},¬P→Ok (some ((((false,()),()):(Bool×Unit)×Unit))) (fun r=>r.1.1=true↔P):=fun h=>.some ⟨fun e=>(by cases e),fun e=>absurd e h⟩
 refine .br (fun h1=>?_) fun h=>no (by have:=k_.1 h;omega)
 refine .br (fun h2=>?_) fun h=>no (by have:=k_.1 h;omega)
 refine .br (fun h3=>?_) fun h=>no (by have:=k_.1 h;omega)
 refine .br (fun h4=>?_) fun h=>no (by have:=k_.1 h;omega)
 refine .br (fun h5=>?_) fun h=>no (by have:=k_.1 h;omega)
 refine .br (fun h6=>?_) fun h=>no (by have:=k_.1 h;omega)
 refine .br (fun h7=>?_) fun h=>no (by have:=k_.1 h;omega)
 refine .br (fun h8=>?_) fun h=>no (by have:=k_.1 h;omega)
 have h1:=jW.1 h1;have h2:=jW.1 h2;have h3:=jW.1 h3;have h4:=jW.1 h4
 have h5:=jW.1 h5;have h6:=jW.1 h6;have h7:=jW.1 h7;have h8:=jW.1 h8
 rw [A9 h5,A9 h7]
 refine .br (fun h9=>.some ?_) fun h=>no (by have:=um.1 h;omega)
 have h9:=fV.1 h9
 show aj _ _=true↔_
 rw [fV]
 omega
theorem DY (a b:Int):g.cY a b=some ((decide (0≤a∧a≤b),()),()):=by
 unfold g.cY
 by_cases h:0≤a
 ·rw [QL (jW.2 h)]
  unfold b9
  by_cases h2:a≤b
  ·rw [decide_eq_true h2,decide_eq_true ⟨h,h2⟩]
  ·rw [decide_eq_false h2,decide_eq_false (fun k=>h2 k.2)]
 ·rw [EE (k_.2 h),decide_eq_false (fun k=>h k.1)]
theorem Aw {o:nz}:Ok (g.fR o) (fun r=>r.1.1=true↔bu o):=by
 obtain ⟨op,a,b⟩:=o
 unfold g.fR
 refine .ij (DY _ _) (.br (fun e=>?_) fun n0=>.br (fun e=>?_) fun n1=>.br (fun e=>?_) fun n2=>.br (fun e=>?_) fun n3=>.some ?_)
 ·have e:op=0:=fV.1 e
  subst e
  refine .ij (DY _ _) (.br (fun h=>.some ?_) fun h=>.some ?_)
  ·have h:=of_decide_eq_true h
   show aj b 0=true↔_
   rw [fV];unfold bu;dsimp only at h ⊢;omega
  ·have h:=of_decide_eq_false h
   refine ⟨fun e=>(by cases e),fun k=>absurd k ?_⟩
   unfold bu;dsimp only at h ⊢;omega
 ·have e:op=1:=fV.1 e
  subst e
  refine .br (fun h=>.some ?_) fun h=>.some ?_
  ·have h:=of_decide_eq_true h
   show aj b 0=true↔_
   rw [fV];unfold bu;dsimp only at h ⊢;omega
  ·have h:=of_decide_eq_false h
   refine ⟨fun e=>(by cases e),fun k=>absurd k ?_⟩
   unfold bu;dsimp only at h ⊢;omega
 ·have e:op=2:=fV.1 e
  subst e
  refine .br (fun h=>.ij (DY _ _) (.some ?_)) fun h=>.some ?_
  ·have h:=of_decide_eq_true h
   show decide _=true↔_
   rw [decide_eq_true_iff];unfold bu;dsimp only at h ⊢;omega
  ·have h:=of_decide_eq_false h
   refine ⟨fun e=>(by cases e),fun k=>absurd k ?_⟩
   unfold bu;dsimp only at h ⊢;omega
 ·have e:op=3:=fV.1 e
  subst e
  refine .br (fun h=>.ij (DY _ _) (.some ?_)) fun h=>.some ?_
  ·have h:=of_decide_eq_true h
   show decide _=true↔_
   rw [decide_eq_true_iff];unfold bu;dsimp only at h ⊢;omega
  ·have h:=of_decide_eq_false h
   refine ⟨fun e=>(by cases e),fun k=>absurd k ?_⟩
   unfold bu;dsimp only at h ⊢;omega
 ·have n0:¬op=0:=um.1 n0
  have n1:¬op=1:=um.1 n1
  have n2:¬op=2:=um.1 n2
  have n3:¬op=3:=um.1 n3
  have hb:∀x y:Bool,iw x y=true↔x=true∧y=true:=by intro x y;cases x<;>cases y<;>decide
  show iw (aj op 4) (iw (aj a 0) (iw (aj b 0) true))=true↔_
  rw [hb,hb,hb,fV,fV,fV]
  unfold bu;dsimp only
  constructor
  ·rintro ⟨h1,h2,h3,_⟩;omega
  ·intro h;exact ⟨by omega,by omega,by omega,rfl⟩
theorem NG {f:List (List nz)} {i:Nat} {l:List nz} (hi:i<f.length) (hl:nth [] f (nN (i:Int))=l) (hlen:l.length≤100) (v1:((Int×Unit)×(Unit×(Unit×(Unit×Unit))))→Option ((Bool×Unit)×Unit)) {P:((Bool×Unit)×Unit)→Prop}
  (hT:(∀o∈l,bu o)→Ok (v1 (((ae .i64 (i:Int) 1),()),((),((),((),()))))) P) (hF:¬(∀o∈l,bu o)→P ((false,()),())) :
  Ok (loop (g.fe f (((i:Int),()),((),((),((),())))) v1) ((0,()),((),((),((),()))))) P:=by
 refine .loop (fun m z=>∃k:Nat,z.1.1=(k:Int)∧k+m=l.length∧∀(j:Nat) o,j<k→l[j]?=some o→bu o) (fun m z gg hI ih=>?_) (N:=l.length) (by unfold nh;omega) ⟨0,rfl,by omega,fun j o h=>by omega⟩
 obtain ⟨k,h1,h2,h3⟩:=hI
 unfold g.fe
 dsimp only
 rw [h1,hl]
 simp only [eB]
 refine .gd (by rw [dt];omega) (.gd (by rw [ey,bF];exact hi) (.br (fun hb=>?_) fun hb=>hT fun o ho=>?_))
 ·have hb:=eA.1 hb
  have hk:k<l.length:=by omega
  have hn:∀d,nth d l (nN (k:Int))=l[k]:=fun d=>fh hk
  have hx:ae .i64 (k:Int) 1=((k+1:Nat):Int):=by rw [bE (by omega)];rfl
  have ho:=zD hk
  simp only [hn]
  refine .gd (by rw [dt];omega) (.gd (by rw [ey,bF];exact hi) (.gd (by rw [dt];omega) (.gd (by rw [ey,bF];exact hk) (.bd Aw fun r hr=>.br (fun e=>.some (hF fun h=>?_)) fun e=>ih (m-1) _ (by omega) ⟨k+1,hx,by omega,fun j o hj h4=>?_⟩))))
  ·have e:=jV.1 e
   rw [hr.2 (h _ (List.getElem_mem hk))] at e;cases e
  ·by_cases Br:j=k
   ·subst Br;rw [ho] at h4;cases h4;exact hr.1 (gw.1 e)
   ·exact h3 j o (by omega) h4
 ·have hb:=g6.1 hb
  obtain ⟨j,hj⟩:=List.getElem?_of_mem ho
  have:=(zB.1 hj).1
  exact h3 j o (by omega) hj
theorem o7 {f:List (List nz)} (hl:f.length≤100) (hf:∀l∈f,l.length≤100):Ok (g.eJ f) (fun r=>r.1.1=true↔gV f):=by
 unfold g.eJ
 simp only [eB]
 refine .br (fun e=>.some ⟨fun e=>(by cases e),fun h=>?_⟩) fun e=>?_
 ·have:=eA.1 e;have:=h.1;omega
 have e:=g6.1 e
 refine .loop (fun m z=>∃k:Nat,z.1.1=(k:Int)∧k+m=f.length∧∀(j:Nat) l,j<k→f[j]?=some l→mP l) (fun m z gg hI ih=>?_) (N:=f.length) (by unfold nh;omega) ⟨0,rfl,by omega,fun j o h=>by omega⟩
 obtain ⟨k,h1,h2,h3⟩:=hI
 obtain ⟨⟨iz,⟨⟩⟩,⟨⟩,⟨⟩,⟨⟩,⟨⟩⟩:=z
 have h1:iz=(k:Int):=h1
 subst h1
 unfold g.gO
 dsimp only
 simp only [eB]
 refine .br (fun hb=>?_) fun hb=>.some ⟨fun _=>⟨by omega,fun l hl=>?_⟩,fun _=>rfl⟩
 ·have hb:=eA.1 hb
  have hk:k<f.length:=by omega
  have ho:=zD hk
  have hx:ae .i64 (k:Int) 1=((k+1:Nat):Int):=by rw [bE (by omega)];rfl
  have hn:nth [] f (nN (k:Int))=f[k]:=fh hk
  refine .gd (by rw [dt];omega) (.gd (by rw [ey,bF];exact hk) (.br (fun h8=>.some ⟨fun e=>(by cases e),fun h=>?_⟩) fun h8=>NG hk hn (hf _ (List.getElem_mem hk)) gg (fun h=>ih (m-1) _ (by omega) ⟨k+1,hx,by omega,fun j l hj h4=>?_⟩) fun h=>⟨fun e=>(by cases e),fun h'=>absurd (h'.2 _ (List.getElem_mem hk)).2 h⟩))
  ·have h8:=eA.1 h8
   rw [hn] at h8
   have:=(h.2 _ (List.getElem_mem hk)).1
   omega
  ·by_cases Br:j=k
   ·subst Br;rw [ho] at h4;cases h4
    have h8:=g6.1 h8
    rw [hn] at h8
    exact ⟨by omega,h⟩
   ·exact h3 j l (by omega) h4
 ·have hb:=g6.1 hb
  obtain ⟨j,hj⟩:=List.getElem?_of_mem hl
  have:=(zB.1 hj).1
  exact h3 j l (by omega) hj
def AN (p:qa) (fW:List (List nz)) (aO:List (List n9)):Prop:=dn p=true∧gV fW∧(aO.length:Int)≤p.2.1∧∀l∈aO,l.length≤64
theorem JB {p:qa} {fW:List (List nz)} {aO:List (List n9)} (hl:fW.length≤100) (hf:∀l∈fW,tJ l) (hq:aO.length≤100) (h:¬AN p fW aO) (c7:T7) (d0:T0) (d1:T1) (d2:T2) (d3:T3) (d4:T4) (d5:T5) (d6:T6) (d7:T2) (d9:T9) :
  Ok (g.fN p fW aO c7 d0 d1 d2 d3 d4 d5 d6 d7 d9) (fun r=>r.1.1=none∧r.1.2.1=1):=by
 unfold g.fN
 refine .uK (fun _=>False) (fun s h=>h.elim) fun kk ko=>.ij (cp p) (.br (fun _=>.some ⟨rfl,rfl⟩) fun e=>.bd (sB hl hf) fun r hr=>.br (fun _=>.some ⟨rfl,rfl⟩) fun e2=>.br (fun _=>.some ⟨rfl,rfl⟩) fun e3=>?_)
 have e:ax (dn p)=false:=e
 have e:=gw.1 e
 have e2:=hr.1 (gw.1 e2)
 have e3:=g6.1 e3
 rw [eB] at e3
 have hn:¬∀l∈aO,l.length≤64:=fun k=>h ⟨e,e2,by omega,k⟩
 clear h
 refine .loop (fun m s=>∃k:Nat,s.1.1=(k:Int)∧k+m=aO.length∧∀(j:Nat) l,j<k→aO[j]?=some l→l.length≤64) (fun m s gg hI ih=>?_) (N:=aO.length) (by unfold nh;omega) ⟨0,rfl,by omega,fun j l h=>by omega⟩
 obtain ⟨k,h1,h2,h3⟩:=hI
 unfold g.gD
 rw [h1,eB]
 refine .br (fun hb=>?_) fun hb=>absurd (fun l hl=>?_) hn
 ·have hb:=eA.1 hb
  have hk:k<aO.length:=by omega
  have ho:=zD hk
  have hx:ae .i64 (k:Int) 1=((k+1:Nat):Int):=by rw [bE (by omega)];rfl
  have hn':nth [] aO (nN (k:Int))=aO[k]:=fh hk
  rw [hn']
  refine .gd (by rw [dt];omega) (.gd (by rw [ey,bF];exact hk) (.br (fun _=>Ok.q9 (jW.2 (by omega)) (.some ⟨rfl,rfl⟩)) fun e=>ih (m-1) _ (by omega) ⟨k+1,hx,by omega,fun j l hj h4=>?_⟩))
  by_cases Br:j=k
  ·subst Br;rw [ho] at h4;cases h4
   have e:=g6.1 e
   rw [eB] at e;omega
  ·exact h3 j l (by omega) h4
 ·have hb:=g6.1 hb
  obtain ⟨j,hj⟩:=List.getElem?_of_mem hl
  have:=(zB.1 hj).1
  exact h3 j l (by omega) hj
def bV (q:Nat→Bool):Nat→List Int
 | 0=>[]
 | k+1=>if q k=true then bV q k++[(k:Int)] else bV q k
theorem mu (q:Nat→Bool):∀k,(bV q k).length≤k
 | 0=>Nat.le_refl _
 | k+1=>by
  have:=mu q k
  unfold bV
  split
  ·rw [zY];simp;omega
  ·omega
theorem vk (q:Nat→Bool) (k:Nat):∀n,k≤n→∃r,bV q n=bV q k++r:=by
  intro n
  induction n with
  | zero=>
            intro h;have:k=0:=by omega
            subst this;exact ⟨[],rfl⟩
  | succ n ih=>
    intro h
    by_cases e:k=n+1
    · subst e;exact ⟨[],by simp⟩
    obtain ⟨r,hr⟩:=ih (by omega)
    by_cases hq:q n=true
    · exact ⟨r++[(n:Int)],by rw [bV,if_pos hq,hr,List.append_assoc]⟩
    · exact ⟨r,by rw [bV,if_neg hq,hr]⟩
theorem xY {q:Nat→Bool} {k n:Nat} (h:k<n) (hq:q k=true):(bV q n)[(bV q k).length]?=some (k:Int):=by
 obtain ⟨r,hr⟩:=vk q (k+1) n h
 rw [hr,bV,if_pos hq,List.append_assoc,zJ (Nat.le_refl _),Nat.sub_self]
 rfl
theorem vl {q:Nat→Bool} {k n:Nat} (h:k≤n) (hq:∀i,k≤i→q i=false):bV q n=bV q k:=by
  induction n with
  | zero=>
            have:k=0:=by omega
            subst this;rfl
  | succ n ih=>
    by_cases e:k=n+1
    · subst e;rfl
    rw [bV,if_neg (by rw [hq n (by omega)];decide),ih (by omega)]
section
variable {n:Nat} {C:WC} {s:WS} {c5:T5} {D:Ds}
theorem EV (H:WI n C s c5 D) (q:Nat→Bool) (hq:∀k t,s.tl[k]?=some t→q k = !(pQ t)):Ok (g.fM C.wi D.1 D.2.1 D.2.2.1 D.2.2.2.1 D.2.2.2.2.1 c5 D.2.2.2.2.2.1 D.2.2.2.2.2.2.1 D.2.2.2.2.2.2.2.1 D.2.2.2.2.2.2.2.2.1) (fun r=>r.1.1=bV q s.tl.length):=by
 obtain ⟨oo,hw,_⟩:=H.world
 have lb:=H.rows
 have h4:=H.four;have h5:=H.Tf
 have e0:∀d,nth d D.1 C.wi=(C.p,(C.fo,(some C.a,(some C.gr,(some C.th,(oo,(s.st:Int))))))):=fun d=>cO hw
 unfold g.fM
 rw [e0]
 refine .mn rfl (.ij lb ?_)
 refine .loop (fun m z=>∃k:Nat,z.1.1=(k:Int)∧k+m=s.tl.length∧z.2.1.1=bV q k) (fun m z gg hI ih=>?_) (N:=s.tl.length) (by unfold nh;omega) ⟨0,rfl,by omega,rfl⟩
 obtain ⟨k,h1,h2,h3⟩:=hI
 unfold g.ig
 rw [h1,h3,eB,zH]
 refine .br (fun hb=>?_) fun hb=>.some ?_
 ·have hb:=eA.1 hb
  have hk:k<s.tl.length:=by omega
  have ht:=zD hk
  obtain ⟨id,rr,w,a1,a2,a3,a4,a5,a6,a7,a8⟩:=H.RT k _ ht
  have hx:ae .i64 (k:Int) 1=((k+1:Nat):Int):=by rw [bE (by omega)];rfl
  have Ix:nth none (C.ts.map some) (nN (k:Int))=some id:=by
   show nth none (C.ts.map some) k=some id
   exact cO (by rw [zL,a1];rfl)
  have hlen:=mu q k
  refine .ij lb (.gd (by rw [dt];omega) (.gd (by rw [ey,bF,zH];show k<_;omega) (.ij lb (.mn Ix (.ij (Eu a2 _) (.br (fun e=>ih (m-1) _ (by omega) ⟨k+1,hx,by omega,?_⟩) fun e=>.gd ?_ (ih (m-1) _ (by omega) ⟨k+1,hx,by omega,?_⟩)))))))
  ·have e:pQ s.tl[k]=true:=e
   show bV q k=bV q (k+1)
   rw [bV,if_neg (by rw [hq k _ ht,e];decide)]
  ·rw [gx,aL];show (bV q k).length+1≤_;omega
  ·have e:pQ s.tl[k]=false:=e
   show bV q k++[(k:Int)]=bV q (k+1)
   rw [bV,if_pos (by rw [hq k _ ht,e];decide)]
 ·have hb:=g6.1 hb
  have:k=s.tl.length:=by omega
  rw [this]
end
open Go.Bm
set_option maxRecDepth 1000000
set_option maxHeartbeats 0
def Ze:cF:=⟨[(true,(.pair (.pair (.int .i64) (.pair (.int .i64) (.pair (.int .i64) (.int .i64)))) (.pair (.aH (.aH (.pair (.int .u8) (.pair (.int .i64) (.int .i64))))) (.aH (.aH (.pair (.int .u8) (.pair (.int .u8) (.pair (.int .u8) (.pair (.int .u8) (.pair (.int .i64) (.pair (.int .i64) (.int .i64)))))))))))),(false,(.int .u8))],[(false,.bool)],[],[(0,R0),(1,R1),(2,R2),(3,R3),(4,R4),(5,R5),(6,R6),(7,R7),(8,R8),(9,R9)]⟩
def g.dQ (a0:(U4×((List lM)×qf))) (v0:(Unit×((qf×Unit)×lU))) (v1:(((List Int)×Unit)×Unit)) (v2:U9) (v3:U6) (v4:Nat) (k:((ju×U2)→(Option U6))) (s:(ju×U2)):(Option U6):=(br (ba s.1.2.1 (zN (len v0.2.1.1))) (gd (bq s.1.2.1) (gd (bx (nN s.1.2.1) (len v0.2.1.1)) (br (ba 0 (zN (len (nth [] v0.2.1.1 (nN s.1.2.1))))) (br (b9 (zN (len v1.1.1)) s.1.1) (some ((false,()),(v2.2.1,(v2.2.2.1,(v2.2.2.2.1,(v2.2.2.2.2.1,(v2.2.2.2.2.2.1,(v2.2.2.2.2.2.2.1,(v2.2.2.2.2.2.2.2.1,(v3.2.2.2.2.2.2.2.2.1,(v2.2.2.2.2.2.2.2.2.1,(v2.2.2.2.2.2.2.2.2.2.1,())))))))))))) (gd (bq s.1.1) (gd (bx (nN s.1.1) (len v1.1.1)) (br (ax (aj (nth 0 v1.1.1 (nN s.1.1)) s.1.2.1)) (some ((false,()),(v2.2.1,(v2.2.2.1,(v2.2.2.2.1,(v2.2.2.2.2.1,(v2.2.2.2.2.2.1,(v2.2.2.2.2.2.2.1,(v2.2.2.2.2.2.2.2.1,(v3.2.2.2.2.2.2.2.2.1,(v2.2.2.2.2.2.2.2.2.1,(v2.2.2.2.2.2.2.2.2.2.1,())))))))))))) (k (((ae .i64 s.1.1 1),((ae .i64 s.1.2.1 1),())),((),((),((),()))))))))) (k ((s.1.1,((ae .i64 s.1.2.1 1),())),((),((),((),())))))))) (br v3.1.1 (br (aj s.1.1 (zN (len v1.1.1))) (bd (g.cW v4 v2.2.1 v2.2.2.1 v2.2.2.2.1 v2.2.2.2.2.1 v2.2.2.2.2.2.1 v2.2.2.2.2.2.2.1 v2.2.2.2.2.2.2.2.1 v3.2.2.2.2.2.2.2.2.1 v2.2.2.2.2.2.2.2.2.1 v2.2.2.2.2.2.2.2.2.2.1) (fun p0=>(br (aj (zN (len p0.1.1)) 0) (bd (g.fk v4 v2.2.1 v2.2.2.1 v2.2.2.2.1 v2.2.2.2.2.1 v2.2.2.2.2.2.1 v2.2.2.2.2.2.2.1 v2.2.2.2.2.2.2.2.1 v3.2.2.2.2.2.2.2.2.1 v2.2.2.2.2.2.2.2.2.1 v2.2.2.2.2.2.2.2.2.2.1) (fun p1=>(br (aj p1.1.1 0) (bd (g.dZ v4 0 v2.2.1 v2.2.2.1 v2.2.2.2.1 v2.2.2.2.2.1 v2.2.2.2.2.2.1 v2.2.2.2.2.2.2.1 v2.2.2.2.2.2.2.2.1 v3.2.2.2.2.2.2.2.2.1 v2.2.2.2.2.2.2.2.2.1 v2.2.2.2.2.2.2.2.2.2.1) (fun p2=>(br (aj (zN (len p2.1.1)) 4) (bd (g.dZ v4 (-1) v2.2.1 v2.2.2.1 v2.2.2.2.1 v2.2.2.2.2.1 v2.2.2.2.2.2.1 v2.2.2.2.2.2.2.1 v2.2.2.2.2.2.2.2.1 v3.2.2.2.2.2.2.2.2.1 v2.2.2.2.2.2.2.2.2.1 v2.2.2.2.2.2.2.2.2.2.1) (fun p3=>(br (aj (zN (len p3.1.1)) 0) (bd (g.dU v4 a0.1.2.1 v2.2.1 v2.2.2.1 v2.2.2.2.1 v2.2.2.2.2.1 v2.2.2.2.2.2.1 v2.2.2.2.2.2.2.1 v2.2.2.2.2.2.2.2.1 v3.2.2.2.2.2.2.2.2.1 v2.2.2.2.2.2.2.2.2.1 v2.2.2.2.2.2.2.2.2.2.1) (fun p4=>(some (((aj (zN (len p4.1.1)) 0),()),(v2.2.1,(v2.2.2.1,(v2.2.2.2.1,(v2.2.2.2.2.1,(v2.2.2.2.2.2.1,(v2.2.2.2.2.2.2.1,(v2.2.2.2.2.2.2.2.1,(v3.2.2.2.2.2.2.2.2.1,(v2.2.2.2.2.2.2.2.2.1,(v2.2.2.2.2.2.2.2.2.2.1,())))))))))))))) (some ((false,()),(v2.2.1,(v2.2.2.1,(v2.2.2.2.1,(v2.2.2.2.2.1,(v2.2.2.2.2.2.1,(v2.2.2.2.2.2.2.1,(v2.2.2.2.2.2.2.2.1,(v3.2.2.2.2.2.2.2.2.1,(v2.2.2.2.2.2.2.2.2.1,(v2.2.2.2.2.2.2.2.2.2.1,()))))))))))))))) (some ((false,()),(v2.2.1,(v2.2.2.1,(v2.2.2.2.1,(v2.2.2.2.2.1,(v2.2.2.2.2.2.1,(v2.2.2.2.2.2.2.1,(v2.2.2.2.2.2.2.2.1,(v3.2.2.2.2.2.2.2.2.1,(v2.2.2.2.2.2.2.2.2.1,(v2.2.2.2.2.2.2.2.2.2.1,()))))))))))))))) (some ((false,()),(v2.2.1,(v2.2.2.1,(v2.2.2.2.1,(v2.2.2.2.2.1,(v2.2.2.2.2.2.1,(v2.2.2.2.2.2.2.1,(v2.2.2.2.2.2.2.2.1,(v3.2.2.2.2.2.2.2.2.1,(v2.2.2.2.2.2.2.2.2.1,(v2.2.2.2.2.2.2.2.2.2.1,()))))))))))))))) (some ((false,()),(v2.2.1,(v2.2.2.1,(v2.2.2.2.1,(v2.2.2.2.2.1,(v2.2.2.2.2.2.1,(v2.2.2.2.2.2.2.1,(v2.2.2.2.2.2.2.2.1,(v3.2.2.2.2.2.2.2.2.1,(v2.2.2.2.2.2.2.2.2.1,(v2.2.2.2.2.2.2.2.2.2.1,()))))))))))))))) (some ((false,()),(v2.2.1,(v2.2.2.1,(v2.2.2.2.1,(v2.2.2.2.2.1,(v2.2.2.2.2.2.1,(v2.2.2.2.2.2.2.1,(v2.2.2.2.2.2.2.2.1,(v3.2.2.2.2.2.2.2.2.1,(v2.2.2.2.2.2.2.2.2.1,(v2.2.2.2.2.2.2.2.2.2.1,()))))))))))))) (some ((false,()),(v2.2.1,(v2.2.2.1,(v2.2.2.2.1,(v2.2.2.2.2.1,(v2.2.2.2.2.2.1,(v2.2.2.2.2.2.2.1,(v2.2.2.2.2.2.2.2.1,(v3.2.2.2.2.2.2.2.2.1,(v2.2.2.2.2.2.2.2.2.1,(v2.2.2.2.2.2.2.2.2.2.1,()))))))))))))))
def g.dP (a0:(U4×((List lM)×qf))) (v0:(Unit×((qf×Unit)×lU))) (v1:(Unit×(((List lM)×Unit)×lU))) (v2:U6) (k:(((Bool×(Int×Unit))×U2)→(Option U6))) (s:((Bool×(Int×Unit))×U2)):(Option U6):=(br (ba s.1.2.1 (zN (len v0.2.1.1))) (br s.1.1 (k ((true,((ae .i64 s.1.2.1 1),())),((),((),((),()))))) (gd (bq s.1.2.1) (gd (bx (nN s.1.2.1) (len v0.2.1.1)) (k (((ba 64 (zN (len (nth [] v0.2.1.1 (nN s.1.2.1))))),((ae .i64 s.1.2.1 1),())),((),((),((),())))))))) (jn (fun (k0:gY→_)=>(bd (g.eK a0.1) (fun p1=>(br p1.1.1 (bd (g.eJ v1.2.1.1) (fun p2=>(br p2.1.1 (br (b9 (zN (len v0.2.1.1)) a0.1.2.1) (k0 (((ax s.1.1),()),((),((),((),()))))) (k0 ((false,()),((),((),((),())))))) (k0 ((false,()),((),((),((),())))))))) (k0 ((false,()),((),((),((),()))))))))) (fun (s3:gY)=>(bd (g.fN a0.1 v1.2.1.1 v0.2.1.1 v2.2.2.2.2.2.2.2.2.1 v2.2.1 v2.2.2.1 v2.2.2.2.1 v2.2.2.2.2.1 v2.2.2.2.2.2.1 v2.2.2.2.2.2.2.1 v2.2.2.2.2.2.2.2.1 v2.2.2.2.2.2.2.2.2.2.1 v2.2.2.2.2.2.2.2.2.2.2.1) (fun p4=>(opt p4.1.1 (br (ax s3.1.1) (br v2.1.1 (some (((aj p4.1.2.1 1),()),(p4.2.1,(p4.2.2.1,(p4.2.2.2.1,(p4.2.2.2.2.1,(p4.2.2.2.2.2.1,(p4.2.2.2.2.2.2.1,(p4.2.2.2.2.2.2.2.1,(v2.2.2.2.2.2.2.2.2.1,(p4.2.2.2.2.2.2.2.2.1,(p4.2.2.2.2.2.2.2.2.2.1,())))))))))))) (some ((false,()),(p4.2.1,(p4.2.2.1,(p4.2.2.2.1,(p4.2.2.2.2.1,(p4.2.2.2.2.2.1,(p4.2.2.2.2.2.2.1,(p4.2.2.2.2.2.2.2.1,(v2.2.2.2.2.2.2.2.2.1,(p4.2.2.2.2.2.2.2.2.1,(p4.2.2.2.2.2.2.2.2.2.1,()))))))))))))) (jn (fun (k5:(Unit×U2)→_)=>(some ((false,()),(p4.2.1,(p4.2.2.1,(p4.2.2.2.1,(p4.2.2.2.2.1,(p4.2.2.2.2.2.1,(p4.2.2.2.2.2.2.1,(p4.2.2.2.2.2.2.2.1,(v2.2.2.2.2.2.2.2.2.1,(p4.2.2.2.2.2.2.2.2.1,(p4.2.2.2.2.2.2.2.2.2.1,()))))))))))))) (fun (s6:(Unit×U2))=>none))) (fun p7=>(br (ax s3.1.1) (br v2.1.1 (some ((false,()),(p4.2.1,(p4.2.2.1,(p4.2.2.2.1,(p4.2.2.2.2.1,(p4.2.2.2.2.2.1,(p4.2.2.2.2.2.2.1,(p4.2.2.2.2.2.2.2.1,(v2.2.2.2.2.2.2.2.2.1,(p4.2.2.2.2.2.2.2.2.1,(p4.2.2.2.2.2.2.2.2.2.1,())))))))))))) (some ((false,()),(p4.2.1,(p4.2.2.1,(p4.2.2.2.1,(p4.2.2.2.2.1,(p4.2.2.2.2.2.1,(p4.2.2.2.2.2.2.1,(p4.2.2.2.2.2.2.2.1,(v2.2.2.2.2.2.2.2.2.1,(p4.2.2.2.2.2.2.2.2.1,(p4.2.2.2.2.2.2.2.2.2.1,()))))))))))))) (jn (fun (k8:(Unit×U2)→_)=>(br (ax (aj p4.1.2.1 0)) (some ((false,()),(p4.2.1,(p4.2.2.1,(p4.2.2.2.1,(p4.2.2.2.2.1,(p4.2.2.2.2.2.1,(p4.2.2.2.2.2.2.1,(p4.2.2.2.2.2.2.2.1,(v2.2.2.2.2.2.2.2.2.1,(p4.2.2.2.2.2.2.2.2.1,(p4.2.2.2.2.2.2.2.2.2.1,())))))))))))) (k8 ((),((),((),((),()))))))) (fun (s9:(Unit×U2))=>(bd (g.fM p7 p4.2.1 p4.2.2.1 p4.2.2.2.1 p4.2.2.2.2.1 p4.2.2.2.2.2.1 p4.2.2.2.2.2.2.1 p4.2.2.2.2.2.2.2.1 v2.2.2.2.2.2.2.2.2.1 p4.2.2.2.2.2.2.2.2.1 p4.2.2.2.2.2.2.2.2.2.1) (fun fm=>(loop (g.dQ a0 v0 fm p4 v2 p7) ((0,(0,())),((),((),((),())))))))))))))))))
def g.dO (a0:(U4×((List lM)×qf))) (v0:(Unit×((qf×Unit)×lU))→(Option U6)) (k:(((Int×Unit)×((qf×Unit)×lU))→(Option U6))) (s:((Int×Unit)×((qf×Unit)×lU))):(Option U6):=(jn (fun (k0:(Unit×U2)→_)=>(br (ba s.1.1 (zN (len a0.2.2))) (br (ba s.1.1 6) (k0 ((),((),((),((),()))))) (v0 ((),((s.2.1.1,()),((),((),())))))) (v0 ((),((s.2.1.1,()),((),((),()))))))) (fun (s1:(Unit×U2))=>(gd (bq s.1.1) (gd (bx (nN s.1.1) (len a0.2.2)) (gd (bq s.1.1) (gd (bx (nN s.1.1) (len a0.2.2)) (gd (bq (kl (zN (len (nth [] a0.2.2 (nN s.1.1)))) 70)) (gd (bw 0 (nN (kl (zN (len (nth [] a0.2.2 (nN s.1.1)))) 70))) (gd (bw (nN (kl (zN (len (nth [] a0.2.2 (nN s.1.1)))) 70)) (len (nth [] a0.2.2 (nN s.1.1)))) (gd (bw (aL (len s.2.1.1) (len [(tk (ay (nN (kl (zN (len (nth [] a0.2.2 (nN s.1.1)))) 70)) 0) (dr 0 (nth [] a0.2.2 (nN s.1.1))))])) 16777216) (k (((ae .i64 s.1.1 1),()),(((cat s.2.1.1 [(tk (ay (nN (kl (zN (len (nth [] a0.2.2 (nN s.1.1)))) 70)) 0) (dr 0 (nth [] a0.2.2 (nN s.1.1))))]),()),((),((),())))))))))))))))
def g.dN (a0:(U4×((List lM)×qf))) (v0:(Unit×(((List lM)×Unit)×lU))→(Option U6)) (k:(((Int×Unit)×(((List lM)×Unit)×lU))→(Option U6))) (s:((Int×Unit)×(((List lM)×Unit)×lU))):(Option U6):=(jn (fun (k0:(Unit×U2)→_)=>(br (ba s.1.1 (zN (len a0.2.1))) (br (ba s.1.1 10) (k0 ((),((),((),((),()))))) (v0 ((),((s.2.1.1,()),((),((),())))))) (v0 ((),((s.2.1.1,()),((),((),()))))))) (fun (s1:(Unit×U2))=>(gd (bq s.1.1) (gd (bx (nN s.1.1) (len a0.2.1)) (gd (bq s.1.1) (gd (bx (nN s.1.1) (len a0.2.1)) (gd (bq (kl (zN (len (nth [] a0.2.1 (nN s.1.1)))) 10)) (gd (bw 0 (nN (kl (zN (len (nth [] a0.2.1 (nN s.1.1)))) 10))) (gd (bw (nN (kl (zN (len (nth [] a0.2.1 (nN s.1.1)))) 10)) (len (nth [] a0.2.1 (nN s.1.1)))) (gd (bw (aL (len s.2.1.1) (len [(tk (ay (nN (kl (zN (len (nth [] a0.2.1 (nN s.1.1)))) 10)) 0) (dr 0 (nth [] a0.2.1 (nN s.1.1))))])) 16777216) (k (((ae .i64 s.1.1 1),()),(((cat s.2.1.1 [(tk (ay (nN (kl (zN (len (nth [] a0.2.1 (nN s.1.1)))) 10)) 0) (dr 0 (nth [] a0.2.1 (nN s.1.1))))]),()),((),((),())))))))))))))))
def g.ff (a0:(U4×((List lM)×qf))) (a1:Int) (d0:T0) (d1:T1) (d2:T2) (d3:T3) (d4:T4) (d5:T5) (d6:T6) (d7:T7) (d8:T2) (d9:T9):(Option U6):=(bd (g.bX d0 d1 d2 d3 d4 d5 d6 d7 d8 d9) (fun p0=>(jn (fun (k1:(Unit×(((List lM)×Unit)×lU))→_)=>(loop (g.dN a0 k1) ((0,()),(([],()),((),((),())))))) (fun (s6:(Unit×(((List lM)×Unit)×lU)))=>(jn (fun (k7:(Unit×((qf×Unit)×lU))→_)=>(loop (g.dO a0 k7) ((0,()),(([],()),((),((),())))))) (fun (zp:(Unit×((qf×Unit)×lU)))=>(jn (fun (GN:(Unit×((qf×Unit)×lU))→_)=>(br (aj (bits .and .u8 a1 1) 1) (gd (bq (gM (cN .i64 a1) 72)) (gd (bw (nN (gM (cN .i64 a1) 72)) 16777216) (gd (bw (aL (len zp.2.1.1) (len [(rep (α:=(Int×(Int×(Int×U4)))) (nN (gM (cN .i64 a1) 72)) (0,(0,(0,(0,(0,(0,0)))))))])) 16777216) (GN ((),(((cat zp.2.1.1 [(rep (α:=(Int×(Int×(Int×U4)))) (nN (gM (cN .i64 a1) 72)) (0,(0,(0,(0,(0,(0,0)))))))]),()),((),((),())))))))) (GN ((),((zp.2.1.1,()),((),((),()))))))) (fun (Q8:(Unit×((qf×Unit)×lU)))=>(loop (g.dP a0 Q8 s6 p0) ((false,(0,())),((),((),((),())))))))))))))
def F6:Plain Ze:=fun x c d=>g.ff x.1 x.2.1 d.1 d.2.1 d.2.2.1 d.2.2.2.1 d.2.2.2.2.1 d.2.2.2.2.2.1 d.2.2.2.2.2.2.1 d.2.2.2.2.2.2.2.1 d.2.2.2.2.2.2.2.2.1 d.2.2.2.2.2.2.2.2.2.1
theorem ct6:bt Tryz.prog 6 Ze F6:=bJ (ao ct7 (ao ZW (ao QF (ao W0 (ao WZ (ao WY (ao WX (ao WW (ao WV (aJ)))))))))) fun x c d=>by kernel_rfl
open Go.Bm Go.ny
abbrev Shown:Prop:=Ok (g.bX [] [] [] [] [] [] [] [] [] []) (fun r=>r.1.1=true)
abbrev vU {β:Type} (x:Option ((Bool×Unit)×β)):Prop:=Ok x (fun r=>r.1.1=true)
def n6 (l:List n9):Prop:=∀c∈l,0≤c.2.1∧0≤c.2.2.1∧0≤c.2.2.2.1
theorem wI (a b:Int):kl a b≤a∧kl a b≤b:=by unfold kl;split<;>omega
theorem wJ {a b:Int} (h:0≤a) (h2:0≤b):0≤kl a b:=by unfold kl;split<;>omega
theorem y_ {α:Type} {x:α} {n:Nat} {l:List α} (h:x∈tk n (dr 0 l)):x∈l:=by
 have h:x∈List.take n (List.drop 0 l):=h
 exact List.mem_of_mem_drop (List.mem_of_mem_take h)
def sA (f:List (List nz)):Prop:=f.length≤10∧∀l∈f,tJ l
def mR (m:Nat) (q:List (List n9)):Prop:=q.length≤m∧∀l∈q,l.length≤100∧n6 l
theorem z5 (n:Nat):n6 (rep (α:=n9) n (0,(0,(0,(0,(0,(0,0))))))):=fun c hc=>by
 have hc:c∈List.replicate n _:=hc
 obtain ⟨_,rfl⟩:=List.mem_replicate.1 hc
 exact ⟨Int.le_refl _,Int.le_refl _,Int.le_refl _⟩
section
variable {c:qa×(List (List nz)×List (List n9))} {β:Type}
theorem H6 (oA:∀l∈c.2.1,∀o∈l,0≤o.1∧o.1≤255) (v0) (hK:∀f,sA f→vU (v0 ((),((f,()),((),((),())))))) :
  vU (loop (g.dN c v0) ((0,()),(([],()),((),((),()))))):=by
 refine .loop (fun m z=>∃k:Nat,z.1.1=(k:Int)∧k+m=10∧z.2.1.1.length=k∧∀l∈z.2.1.1,tJ l) (fun m z gg hI ih=>?_) (N:=10) (by unfold nh;omega) ⟨0,rfl,by omega,rfl,fun l h=>nomatch h⟩
 obtain ⟨k,h1,h2,h3,h4⟩:=hI
 have sZ:sA z.2.1.1:=⟨by omega,h4⟩
 unfold g.dN
 rw [h1,eB]
 refine .uK (fun _=>k<c.2.1.length∧k<10) (fun s hs=>?_) fun kk ko=>.br (fun e=>.br (fun e2=>ko _ ⟨by have:=eA.1 e;omega,by have:=eA.1 e2;omega⟩) fun _=>hK _ sZ) fun _=>hK _ sZ
 obtain ⟨hk,Ub⟩:=hs
 have hn:nth [] c.2.1 (nN (k:Int))=c.2.1[k]:=fh hk
 have hx:ae .i64 (k:Int) 1=((k+1:Nat):Int):=by rw [bE (by omega)];rfl
 have Oz:=oA _ (List.getElem_mem hk)
 rw [hn,eB]
 generalize c.2.1[k]=row at Oz
 have i1:=wI (row.length:Int) 10
 have i2:=wJ (show 0≤(row.length:Int) by omega) (show (0:Int)≤10 by omega)
 generalize kl (row.length:Int) 10=mm at i1 i2
 refine .gd (by rw [dt];omega) (.gd (by rw [ey,bF];exact hk) (.gd (by rw [dt];omega) (.gd (by rw [ey,bF];exact hk) (.gd (by rw [dt];omega) (.gd (by rw [gx];exact Nat.zero_le _) (.gd (by rw [gx,h_,bF];omega) (.gd (by rw [gx,aL];show z.2.1.1.length+1≤_;omega) (ih (m-1) _ (by omega) ⟨k+1,hx,by omega,?_,fun l hl=>?_⟩))))))))
 ·show (z.2.1.1++[_]).length=_
  rw [zY,h3];rfl
 ·have hl:l∈z.2.1.1++[tk (ay (nN mm) 0) (dr 0 row)]:=hl
  rcases zX.1 hl with hl | hl
  ·exact h4 l hl
  ·rw [zF] at hl
   subst hl
   refine ⟨?_,fun o ho=>Oz o (y_ ho)⟩
   show (List.take (nN mm-0) (List.drop 0 row)).length≤100
   rw [List.length_take,h_];omega
theorem H7 (tZ:∀l∈c.2.2,n6 l) (v0) (hK:∀f,mR 6 f→vU (v0 ((),((f,()),((),((),())))))) :
  vU (loop (g.dO c v0) ((0,()),(([],()),((),((),()))))):=by
 refine .loop (fun m z=>∃k:Nat,z.1.1=(k:Int)∧k+m=6∧z.2.1.1.length=k∧∀l∈z.2.1.1,l.length≤100∧n6 l) (fun m z gg hI ih=>?_) (N:=6) (by unfold nh;omega) ⟨0,rfl,by omega,rfl,fun l h=>nomatch h⟩
 obtain ⟨k,h1,h2,h3,h4⟩:=hI
 have sZ:mR 6 z.2.1.1:=⟨by omega,h4⟩
 unfold g.dO
 rw [h1,eB]
 refine .uK (fun _=>k<c.2.2.length∧k<6) (fun s hs=>?_) fun kk ko=>.br (fun e=>.br (fun e2=>ko _ ⟨by have:=eA.1 e;omega,by have:=eA.1 e2;omega⟩) fun _=>hK _ sZ) fun _=>hK _ sZ
 obtain ⟨hk,Ub⟩:=hs
 have hn:nth [] c.2.2 (nN (k:Int))=c.2.2[k]:=fh hk
 have hx:ae .i64 (k:Int) 1=((k+1:Nat):Int):=by rw [bE (by omega)];rfl
 have Oz:=tZ _ (List.getElem_mem hk)
 rw [hn,eB]
 generalize c.2.2[k]=row at Oz
 have i1:=wI (row.length:Int) 70
 have i2:=wJ (show 0≤(row.length:Int) by omega) (show (0:Int)≤70 by omega)
 generalize kl (row.length:Int) 70=mm at i1 i2
 refine .gd (by rw [dt];omega) (.gd (by rw [ey,bF];exact hk) (.gd (by rw [dt];omega) (.gd (by rw [ey,bF];exact hk) (.gd (by rw [dt];omega) (.gd (by rw [gx];exact Nat.zero_le _) (.gd (by rw [gx,h_,bF];omega) (.gd (by rw [gx,aL];show z.2.1.1.length+1≤_;omega) (ih (m-1) _ (by omega) ⟨k+1,hx,by omega,?_,fun l hl=>?_⟩))))))))
 ·show (z.2.1.1++[_]).length=_
  rw [zY,h3];rfl
 ·have hl:l∈z.2.1.1++[tk (ay (nN mm) 0) (dr 0 row)]:=hl
  rcases zX.1 hl with hl | hl
  ·exact h4 l hl
  ·rw [zF] at hl
   subst hl
   refine ⟨?_,fun o ho=>Oz o (y_ ho)⟩
   show (List.take (nN mm-0) (List.drop 0 row)).length≤100
   rw [List.length_take,h_];omega
def g5 (aO:List (List n9)) (i:Nat):Bool:=!(decide ((aO.getD i []).length=0))
theorem H9 {aO:List (List n9)} (hp:dn c.1=true) (hl:(aO.length:Int)≤c.1.2.1) (v0 v1 v2 v3) {C:WC} {b:Nat} (h0:v0.2.1.1=aO) (h3:v3.1.1=true) (Bo:v1.1.1=bV (g5 aO) c.1.2.1.toNat)
  (H:WI 0 C (E0 c.1 aO b) v2.2.2.2.2.2.2.1 (v2.2.1,(v2.2.2.1,(v2.2.2.2.1,(v2.2.2.2.2.1,(v2.2.2.2.2.2.1,(v2.2.2.2.2.2.2.2.1,(v3.2.2.2.2.2.2.2.2.1,(v2.2.2.2.2.2.2.2.2.1,(v2.2.2.2.2.2.2.2.2.2.1,())))))))))) :
  vU (loop (g.dQ c v0 v1 v2 v3 C.wi) ((0,(0,())),((),((),((),()))))):=by
 have TO:=fa.1 hp
 refine .loop (fun m z=>∃k:Nat,z.1.2.1=(k:Int)∧k+m=aO.length∧z.1.1=((bV (g5 aO) k).length:Int)) (fun m z gg hI ih=>?_) (N:=aO.length) (by unfold nh;omega) ⟨0,rfl,by omega,rfl⟩
 obtain ⟨k,h1,h2,h4⟩:=hI
 have hlen:=mu (g5 aO) k
 unfold g.dQ
 rw [h0,h1,h4,Bo]
 simp only [eB]
 refine .br (fun hb=>?_) fun hb=>Ok.q9 h3 ?_
 ·have hb:=eA.1 hb
  have hk:k<aO.length:=by omega
  have hkt:k<c.1.2.1.toNat:=by omega
  have hn:nth [] aO (nN (k:Int))=aO[k]:=fh hk
  have hx:ae .i64 (k:Int) 1=((k+1:Nat):Int):=by rw [bE (by omega)];rfl
  have hy:ae .i64 ((bV (g5 aO) k).length:Int) 1=(((bV (g5 aO) k).length+1:Nat):Int):=by rw [bE (by omega)];rfl
  have hg:aO.getD k []=aO[k]:=by rw [zA,zD hk];rfl
  rw [hn,hx,hy]
  refine .gd (by rw [dt];omega) (.gd (by rw [ey,bF];exact hk) (.br (fun e=>?_) fun e=>?_))
  ·have e:=eA.1 e
   have hq:g5 aO k=true:=by
    unfold g5;rw [hg,decide_eq_false (by omega)];rfl
   have bG:=xY hkt hq
   have fp:=(zB.1 bG).1
   have hnv:nth 0 (bV (g5 aO) c.1.2.1.toNat) (nN ((bV (g5 aO) k).length:Int))=(k:Int):=cO bG
   rw [hnv]
   refine Ok.xc (k_.2 (by omega)) (.gd (by rw [dt];omega) (.gd (by rw [ey,bF];exact fp) (Ok.xc (gw.2 (fV.2 rfl)) (ih (m-1) _ (by omega) ⟨k+1,rfl,by omega,?_⟩))))
   show (((bV (g5 aO) k).length+1:Nat):Int)=_
   rw [bV,if_pos hq,zY];rfl
  ·have e:=g6.1 e
   have hq:g5 aO k=false:=by
    unfold g5;rw [hg,decide_eq_true (by omega)];rfl
   refine ih (m-1) _ (by omega) ⟨k+1,rfl,by omega,?_⟩
   show ((bV (g5 aO) k).length:Int)=_
   rw [bV,if_neg (by rw [hq];decide)]
 ·have hb:=g6.1 hb
  have hk:k=aO.length:=by omega
  have sk:bV (g5 aO) c.1.2.1.toNat=bV (g5 aO) k:=vl (by omega) fun i hi=>by
   unfold g5
   rw [zA,zb (by omega)];rfl
  refine Ok.q9 (fV.2 (by rw [sk])) (.bd (Jz H (Nat.zero_le _)) fun p5 h5=>Ok.q9 (fV.2 (by rw [h5];rfl)) (.ij (ET H) (Ok.q9 (fV.2 rfl) (.ij (Cl H 0) (Ok.q9 (fV.2 ?_) (.ij (Cl H (-1)) (Ok.q9 (fV.2 ?_) (.ij (yH H _) (.some ?_)))))))))
  ·show ((mi (E0 c.1 aO b) 0).length:Int)=4
   unfold mi E0
   rw [if_pos (Int.le_refl _)]
   rw [List.getElem?_replicate,if_pos (by show 0<_;omega)]
   rfl
  ·show ((mi (E0 c.1 aO b) (-1)).length:Int)=0
   unfold mi
   rw [if_neg (by omega)];rfl
  ·show aj (zN (len (pP (E0 c.1 aO b) c.1.2.1))) 0=true
   rw [fV,eB]
   unfold pP E0
   rw [if_pos (by omega),zb (by rw [mI];exact Nat.le_refl _)]
   rfl
theorem H8 {aO:List (List n9)} {fW:List (List nz)} (hq:mR 7 aO) (hf:sA fW) (v0 v1 v2) (h0:v0.2.1.1=aO) (h1:v1.2.1.1=fW) (h3:v2.1.1=true) :
  vU (loop (g.dP c v0 v1 v2) ((false,(0,())),((),((),((),()))))):=by
 have Om:=hq.1
 have GZ:=hf.1
 refine .loop (fun m z=>∃k:Nat,z.1.2.1=(k:Int)∧k+m=aO.length∧(z.1.1=true↔∃(j:Nat) (l:List n9),j<k∧aO[j]?=some l∧64<l.length)) (fun m z gg hI ih=>?_) (N:=aO.length) (by unfold nh;omega) ⟨0,rfl,by omega,fun e=>(by cases e),fun ⟨j,l,h,_⟩=>by omega⟩
 obtain ⟨k,i1,i2,i3⟩:=hI
 unfold g.dP
 rw [h0,h1,i1]
 simp only [eB]
 refine .br (fun hb=>?_) fun hb=>?_
 ·have hb:=eA.1 hb
  have hk:k<aO.length:=by omega
  have hn:nth [] aO (nN (k:Int))=aO[k]:=fh hk
  have ho:=zD hk
  have hx:ae .i64 (k:Int) 1=((k+1:Nat):Int):=by rw [bE (by omega)];rfl
  rw [hn,hx]
  refine .br (fun e=>ih (m-1) _ (by omega) ⟨k+1,rfl,by omega,fun _=>?_,fun _=>rfl⟩) fun e=>.gd (by rw [dt];omega) (.gd (by rw [ey,bF];exact hk) (ih (m-1) _ (by omega) ⟨k+1,rfl,by omega,?_⟩))
  ·obtain ⟨j,l,a,b,d⟩:=i3.1 e
   exact ⟨j,l,by omega,b,d⟩
  ·show ba 64 (aO[k].length:Int)=true↔_
   rw [eA]
   constructor
   ·intro h;exact ⟨k,_,by omega,ho,by omega⟩
   ·rintro ⟨j,l,a,b,d⟩
    by_cases Br:j=k
    ·subst Br;rw [ho] at b;cases b;omega
    ·have:=i3.2 ⟨j,l,by omega,b,d⟩
     rw [e] at this;cases this
 ·have hb:=g6.1 hb
  have hk:k=aO.length:=by omega
  have GX:z.1.1=true↔¬∀l∈aO,l.length≤64:=by
   rw [i3]
   constructor
   ·rintro ⟨j,l,_,b,d⟩ h
    have:=h l (zG b);omega
   ·intro h
    apply Classical.byContradiction
    intro hc
    refine h fun l hl=>?_
    obtain ⟨j,hj⟩:=List.getElem?_of_mem hl
    have:=(zB.1 hj).1
    apply Classical.byContradiction
    intro h64
    exact hc ⟨j,l,by omega,hj,by omega⟩
  refine .uK (fun s=>s.1.1=true↔AN c.1 fW aO) (fun s hs=>?_) fun kk ko=>.bd (o8 c.1) fun r hr=>.br (fun e=>.bd (o7 (by omega) (fun l hl=>(hf.2 l hl).1)) fun r2 Rs=>.br (fun e2=>.br (fun e3=>ko _ ?_) fun e3=>ko _ ?_) fun e2=>ko _ ?_) fun e=>ko _ ?_
  rotate_left
  ·show ax z.1.1=true↔_
   rw [jV]
   constructor
   ·intro h;exact ⟨hr.1 e,Rs.1 e2,jW.1 e3,Classical.byContradiction fun hc=>by rw [GX.2 hc] at h;cases h⟩
   ·intro h;cases hz:z.1.1 with
    | true=>exact absurd h.2.2.2 (GX.1 hz)
    | false=>rfl
  ·exact ⟨fun h=>(by cases h),fun h=>absurd h.2.2.1 (k_.1 e3)⟩
  ·exact ⟨fun h=>(by cases h),fun h=>by rw [Rs.2 h.2.1] at e2;cases e2⟩
  ·exact ⟨fun h=>(by cases h),fun h=>by rw [hr.2 h.1] at e;cases e⟩
  by_cases D8:AN c.1 fW aO
  ·have hs:=hs.2 D8
   obtain ⟨m1,m2,m3,m4⟩:=D8
   refine .bd (JA m1 m2 ⟨m3,fun l hl=>⟨m4 l hl,(hq.2 l hl).2⟩⟩ _ _ _ _ _ _ _ _ _ _) fun p2 h2=>?_
   obtain ⟨n1,n2,C,n3,n4,H⟩:=h2
   refine .mn n1 (Ok.xc (gw.2 hs) (.uK (fun _=>True) (fun u _=>?_) fun kk ko=>Ok.xc (gw.2 (fV.2 n2)) (ko _ trivial)))
   rw [←n3]
   refine .bd (EV H (g5 aO) fun k t h=>?_) fun p5 h5=>H9 m1 m3 v0 p5 p2 v2 h0 h3 (by rw [h5];show bV _ (yJ _ _ _).length=_;rw [mI]) H
   obtain ⟨rfl,_⟩:=y9 h
   rfl
  ·have hs:s.1.1=false:=by
    cases h:s.1.1 with
    | true=>exact absurd (hs.1 h) D8
    | false=>rfl
   refine .bd (JB (by omega) hf.2 (by omega) D8 _ _ _ _ _ _ _ _ _ _) fun p2 h2=>.Dt h2.1 (Ok.q9 (jV.2 hs) (Ok.q9 h3 (.some ?_)))
   show aj _ _=true
   rw [fV];exact h2.2
end
theorem tb (hs:Shown) (c:qa×(List (List nz)×List (List n9))) (a1:Int) (oA:∀l∈c.2.1,∀o∈l,0≤o.1∧o.1≤255) (tZ:∀l∈c.2.2,n6 l) (hb:0≤a1∧a1≤255) :
  vU (g.ff c a1 [] [] [] [] [] [] [] [] [] []):=by
 unfold g.ff
 refine .bd hs fun p0 h0=>.uK (fun s=>sA s.2.1.1) (fun s6 hf=>.uK (fun s=>mR 6 s.2.1.1) (fun zp hq=>.uK (fun s=>mR 7 s.2.1.1) (fun Q8 hq7=>H8 hq7 hf Q8 s6 p0 rfl rfl h0) fun kk ko=>?_) fun kk ko=>H7 tZ kk fun f h=>ko _ h) fun kk ko=>H6 oA kk fun f h=>ko _ h
 have hl:=hq.1
 refine .br (fun e=>?_) fun e=>ko _ ⟨Nat.le_trans hl (by decide),hq.2⟩
 rw [gC (by omega),eN (by omega)]
 refine .gd (by rw [dt];omega) (.gd (by have h1:=Int.emod_lt_of_pos a1 (show (0:Int)<72 by omega);rw [gx,h_];omega) (.gd (by rw [gx,aL];show zp.2.1.1.length+1≤_;omega) (ko _ ⟨?_,fun l h=>?_⟩)))
 ·show (zp.2.1.1++[_]).length≤7
  rw [zY];simp;omega
 ·have h:l∈zp.2.1.1++[rep (α:=n9) (nN (a1%72)) (0,(0,(0,(0,(0,(0,0))))))]:=h
  rcases zX.1 h with h | h
  ·exact hq.2 l h
  ·rw [zF] at h
   subst h
   refine ⟨?_,z5 _⟩
   show (List.replicate _ _).length≤100
   rw [List.length_replicate,h_];omega
open Go.Bm
def e.ab (L:fX) (J:fY) (a0:Int) (a1:Int) (a2:Int):jK:=(br (b9 a1 a0) (some (((b9 a0 a2),()),())) (some ((false,()),())))
def e.dL (L:fX) (J:fY) (a0:U4):jK:=(bd (e.ab L J a0.1 1 8) (fun p0=>(br p0.1.1 (bd (e.ab L J a0.2.1 1 4) (fun p1=>(br p1.1.1 (bd (e.ab L J a0.2.2.1 0 2048) (fun p2=>(br p2.1.1 (bd (e.ab L J a0.2.2.2 0 8192) (fun p3=>(br p3.1.1 (some (((aj (gM (bits BinOp.or IntKind.i64 a0.2.2.1 a0.2.2.2) 8) 0),()),())) (some ((false,()),()))))) (some ((false,()),()))))) (some ((false,()),()))))) (some ((false,()),())))))
def e.dC (L:fX) (J:fY) (a0:(List lM)) (v0:U8) (v1:U8→jK) (k:(U8→jK)) (s:U8):jK:=(br (ba s.1.1 (zN (len (nth [] a0 (nN v0.1.1))))) (gd (bq s.1.1) (gd (bx (nN s.1.1) (len (nth [] a0 (nN v0.1.1)))) (br (b9 5 (cN IntKind.i64 (nth (0,(0,0)) (nth [] a0 (nN v0.1.1)) (nN s.1.1)).1)) (some ((false,()),())) (br (aj (nth (0,(0,0)) (nth [] a0 (nN v0.1.1)) (nN s.1.1)).1 0) (bd (e.ab L J (nth (0,(0,0)) (nth [] a0 (nN v0.1.1)) (nN s.1.1)).2.1 0 99) (fun p0=>(br (ax p0.1.1) (some ((false,()),())) (br (aj (nth (0,(0,0)) (nth [] a0 (nN v0.1.1)) (nN s.1.1)).1 0) (bd (e.ab L J (nth (0,(0,0)) (nth [] a0 (nN v0.1.1)) (nN s.1.1)).2.2 0 0) (fun p1=>(br (ax p1.1.1) (some ((false,()),())) (k (((ae IntKind.i64 s.1.1 1),()),((),((),((),())))))))) (br (aj (nth (0,(0,0)) (nth [] a0 (nN v0.1.1)) (nN s.1.1)).1 1) (bd (e.ab L J (nth (0,(0,0)) (nth [] a0 (nN v0.1.1)) (nN s.1.1)).2.2 0 0) (fun p2=>(br (ax p2.1.1) (some ((false,()),())) (k (((ae IntKind.i64 s.1.1 1),()),((),((),((),())))))))) (br (aj (nth (0,(0,0)) (nth [] a0 (nN v0.1.1)) (nN s.1.1)).1 2) (bd (e.ab L J (nth (0,(0,0)) (nth [] a0 (nN v0.1.1)) (nN s.1.1)).2.2 0 5) (fun p3=>(br (ax p3.1.1) (some ((false,()),())) (k (((ae IntKind.i64 s.1.1 1),()),((),((),((),())))))))) (br (aj (nth (0,(0,0)) (nth [] a0 (nN v0.1.1)) (nN s.1.1)).1 3) (bd (e.ab L J (nth (0,(0,0)) (nth [] a0 (nN v0.1.1)) (nN s.1.1)).2.2 0 8) (fun p4=>(br (ax p4.1.1) (some ((false,()),())) (k (((ae IntKind.i64 s.1.1 1),()),((),((),((),())))))))) (br (aj (nth (0,(0,0)) (nth [] a0 (nN v0.1.1)) (nN s.1.1)).1 4) (bd (e.ab L J (nth (0,(0,0)) (nth [] a0 (nN v0.1.1)) (nN s.1.1)).2.2 0 0) (fun p5=>(br (ax p5.1.1) (some ((false,()),())) (k (((ae IntKind.i64 s.1.1 1),()),((),((),((),())))))))) none)))))))) (br (aj (nth (0,(0,0)) (nth [] a0 (nN v0.1.1)) (nN s.1.1)).1 1) (bd (e.ab L J (nth (0,(0,0)) (nth [] a0 (nN v0.1.1)) (nN s.1.1)).2.1 0 5) (fun p6=>(br (ax p6.1.1) (some ((false,()),())) (br (aj (nth (0,(0,0)) (nth [] a0 (nN v0.1.1)) (nN s.1.1)).1 0) (bd (e.ab L J (nth (0,(0,0)) (nth [] a0 (nN v0.1.1)) (nN s.1.1)).2.2 0 0) (fun p7=>(br (ax p7.1.1) (some ((false,()),())) (k (((ae IntKind.i64 s.1.1 1),()),((),((),((),())))))))) (br (aj (nth (0,(0,0)) (nth [] a0 (nN v0.1.1)) (nN s.1.1)).1 1) (bd (e.ab L J (nth (0,(0,0)) (nth [] a0 (nN v0.1.1)) (nN s.1.1)).2.2 0 0) (fun p8=>(br (ax p8.1.1) (some ((false,()),())) (k (((ae IntKind.i64 s.1.1 1),()),((),((),((),())))))))) (br (aj (nth (0,(0,0)) (nth [] a0 (nN v0.1.1)) (nN s.1.1)).1 2) (bd (e.ab L J (nth (0,(0,0)) (nth [] a0 (nN v0.1.1)) (nN s.1.1)).2.2 0 5) (fun p9=>(br (ax p9.1.1) (some ((false,()),())) (k (((ae IntKind.i64 s.1.1 1),()),((),((),((),())))))))) (br (aj (nth (0,(0,0)) (nth [] a0 (nN v0.1.1)) (nN s.1.1)).1 3) (bd (e.ab L J (nth (0,(0,0)) (nth [] a0 (nN v0.1.1)) (nN s.1.1)).2.2 0 8) (fun fm=>(br (ax fm.1.1) (some ((false,()),())) (k (((ae IntKind.i64 s.1.1 1),()),((),((),((),())))))))) (br (aj (nth (0,(0,0)) (nth [] a0 (nN v0.1.1)) (nN s.1.1)).1 4) (bd (e.ab L J (nth (0,(0,0)) (nth [] a0 (nN v0.1.1)) (nN s.1.1)).2.2 0 0) (fun jE=>(br (ax jE.1.1) (some ((false,()),())) (k (((ae IntKind.i64 s.1.1 1),()),((),((),((),())))))))) none)))))))) (br (aj (nth (0,(0,0)) (nth [] a0 (nN v0.1.1)) (nN s.1.1)).1 2) (bd (e.ab L J (nth (0,(0,0)) (nth [] a0 (nN v0.1.1)) (nN s.1.1)).2.1 0 5) (fun b0=>(br (ax b0.1.1) (some ((false,()),())) (br (aj (nth (0,(0,0)) (nth [] a0 (nN v0.1.1)) (nN s.1.1)).1 0) (bd (e.ab L J (nth (0,(0,0)) (nth [] a0 (nN v0.1.1)) (nN s.1.1)).2.2 0 0) (fun b_=>(br (ax b_.1.1) (some ((false,()),())) (k (((ae IntKind.i64 s.1.1 1),()),((),((),((),())))))))) (br (aj (nth (0,(0,0)) (nth [] a0 (nN v0.1.1)) (nN s.1.1)).1 1) (bd (e.ab L J (nth (0,(0,0)) (nth [] a0 (nN v0.1.1)) (nN s.1.1)).2.2 0 0) (fun jr=>(br (ax jr.1.1) (some ((false,()),())) (k (((ae IntKind.i64 s.1.1 1),()),((),((),((),())))))))) (br (aj (nth (0,(0,0)) (nth [] a0 (nN v0.1.1)) (nN s.1.1)).1 2) (bd (e.ab L J (nth (0,(0,0)) (nth [] a0 (nN v0.1.1)) (nN s.1.1)).2.2 0 5) (fun cR=>(br (ax cR.1.1) (some ((false,()),())) (k (((ae IntKind.i64 s.1.1 1),()),((),((),((),())))))))) (br (aj (nth (0,(0,0)) (nth [] a0 (nN v0.1.1)) (nN s.1.1)).1 3) (bd (e.ab L J (nth (0,(0,0)) (nth [] a0 (nN v0.1.1)) (nN s.1.1)).2.2 0 8) (fun dR=>(br (ax dR.1.1) (some ((false,()),())) (k (((ae IntKind.i64 s.1.1 1),()),((),((),((),())))))))) (br (aj (nth (0,(0,0)) (nth [] a0 (nN v0.1.1)) (nN s.1.1)).1 4) (bd (e.ab L J (nth (0,(0,0)) (nth [] a0 (nN v0.1.1)) (nN s.1.1)).2.2 0 0) (fun fl=>(br (ax fl.1.1) (some ((false,()),())) (k (((ae IntKind.i64 s.1.1 1),()),((),((),((),())))))))) none)))))))) (br (aj (nth (0,(0,0)) (nth [] a0 (nN v0.1.1)) (nN s.1.1)).1 3) (bd (e.ab L J (nth (0,(0,0)) (nth [] a0 (nN v0.1.1)) (nN s.1.1)).2.1 0 5) (fun eT=>(br (ax eT.1.1) (some ((false,()),())) (br (aj (nth (0,(0,0)) (nth [] a0 (nN v0.1.1)) (nN s.1.1)).1 0) (bd (e.ab L J (nth (0,(0,0)) (nth [] a0 (nN v0.1.1)) (nN s.1.1)).2.2 0 0) (fun kf=>(br (ax kf.1.1) (some ((false,()),())) (k (((ae IntKind.i64 s.1.1 1),()),((),((),((),())))))))) (br (aj (nth (0,(0,0)) (nth [] a0 (nN v0.1.1)) (nN s.1.1)).1 1) (bd (e.ab L J (nth (0,(0,0)) (nth [] a0 (nN v0.1.1)) (nN s.1.1)).2.2 0 0) (fun df=>(br (ax df.1.1) (some ((false,()),())) (k (((ae IntKind.i64 s.1.1 1),()),((),((),((),())))))))) (br (aj (nth (0,(0,0)) (nth [] a0 (nN v0.1.1)) (nN s.1.1)).1 2) (bd (e.ab L J (nth (0,(0,0)) (nth [] a0 (nN v0.1.1)) (nN s.1.1)).2.2 0 5) (fun kX=>(br (ax kX.1.1) (some ((false,()),())) (k (((ae IntKind.i64 s.1.1 1),()),((),((),((),())))))))) (br (aj (nth (0,(0,0)) (nth [] a0 (nN v0.1.1)) (nN s.1.1)).1 3) (bd (e.ab L J (nth (0,(0,0)) (nth [] a0 (nN v0.1.1)) (nN s.1.1)).2.2 0 8) (fun iR=>(br (ax iR.1.1) (some ((false,()),())) (k (((ae IntKind.i64 s.1.1 1),()),((),((),((),())))))))) (br (aj (nth (0,(0,0)) (nth [] a0 (nN v0.1.1)) (nN s.1.1)).1 4) (bd (e.ab L J (nth (0,(0,0)) (nth [] a0 (nN v0.1.1)) (nN s.1.1)).2.2 0 0) (fun eu=>(br (ax eu.1.1) (some ((false,()),())) (k (((ae IntKind.i64 s.1.1 1),()),((),((),((),())))))))) none)))))))) (br (aj (nth (0,(0,0)) (nth [] a0 (nN v0.1.1)) (nN s.1.1)).1 4) (bd (e.ab L J (nth (0,(0,0)) (nth [] a0 (nN v0.1.1)) (nN s.1.1)).2.1 0 0) (fun iQ=>(br (ax iQ.1.1) (some ((false,()),())) (br (aj (nth (0,(0,0)) (nth [] a0 (nN v0.1.1)) (nN s.1.1)).1 0) (bd (e.ab L J (nth (0,(0,0)) (nth [] a0 (nN v0.1.1)) (nN s.1.1)).2.2 0 0) (fun d_=>(br (ax d_.1.1) (some ((false,()),())) (k (((ae IntKind.i64 s.1.1 1),()),((),((),((),())))))))) (br (aj (nth (0,(0,0)) (nth [] a0 (nN v0.1.1)) (nN s.1.1)).1 1) (bd (e.ab L J (nth (0,(0,0)) (nth [] a0 (nN v0.1.1)) (nN s.1.1)).2.2 0 0) (fun du=>(br (ax du.1.1) (some ((false,()),())) (k (((ae IntKind.i64 s.1.1 1),()),((),((),((),())))))))) (br (aj (nth (0,(0,0)) (nth [] a0 (nN v0.1.1)) (nN s.1.1)).1 2) (bd (e.ab L J (nth (0,(0,0)) (nth [] a0 (nN v0.1.1)) (nN s.1.1)).2.2 0 5) (fun kO=>(br (ax kO.1.1) (some ((false,()),())) (k (((ae IntKind.i64 s.1.1 1),()),((),((),((),())))))))) (br (aj (nth (0,(0,0)) (nth [] a0 (nN v0.1.1)) (nN s.1.1)).1 3) (bd (e.ab L J (nth (0,(0,0)) (nth [] a0 (nN v0.1.1)) (nN s.1.1)).2.2 0 8) (fun ml=>(br (ax ml.1.1) (some ((false,()),())) (k (((ae IntKind.i64 s.1.1 1),()),((),((),((),())))))))) (br (aj (nth (0,(0,0)) (nth [] a0 (nN v0.1.1)) (nN s.1.1)).1 4) (bd (e.ab L J (nth (0,(0,0)) (nth [] a0 (nN v0.1.1)) (nN s.1.1)).2.2 0 0) (fun iP=>(br (ax iP.1.1) (some ((false,()),())) (k (((ae IntKind.i64 s.1.1 1),()),((),((),((),())))))))) none)))))))) none)))))))) (br (ba 8 (zN (len (nth [] a0 (nN v0.1.1))))) (some ((false,()),())) (v1 (((ae IntKind.i64 v0.1.1 1),()),((),((),((),())))))))
def e.fT (L:fX) (J:fY) (a0:(List lM)) (k:(U8→jK)) (s:U8):jK:=(br (ba s.1.1 (zN (len a0))) (gd (bq s.1.1) (gd (bx (nN s.1.1) (len a0)) (L _ _ (e.dC L J a0 s k) ((0,()),((),((),((),()))))))) (some (((b9 (zN (len a0)) 8),()),())))
def e.gy (L:fX) (J:fY) (a0:(List lM)):jK:=(L _ _ (e.fT L J a0) ((0,()),((),((),((),())))))
def e.bK (L:fX) (J:fY) (a0:U4):(Option (((Int×Int)×(Int×Unit))×Unit)):=(bd (e.dL L J a0) (fun p0=>(br (ax p0.1.1) (some (((0,0),(1,())),())) (some ((((cZ IntKind.i64 a0.1 64),a0.2.2.1),(0,())),())))))
def e.e_ (L:fX) (J:fY) (a0:U4):(Option (((Int×Int)×(Int×Unit))×Unit)):=(bd (e.bK L J a0) (fun p0=>(br (ax (aj p0.1.2.1 0)) (some (((0,0),(p0.1.2.1,())),())) (some ((((ae IntKind.i64 p0.1.1.1 p0.1.1.2),a0.2.2.2),(0,())),())))))
def e.iA (L:fX) (J:fY) (a0:U4):(Option (ju×Unit)):=(bd (e.e_ L J a0) (fun p0=>(some (((ae IntKind.i64 p0.1.1.1 p0.1.1.2),(p0.1.2.1,())),()))))
def e.iG (L:fX) (J:fY) (a0:Int) (d0:T1) (d1:T2):(Option (((Option Nat)×(Int×Unit))×(T1×(T2×Unit)))):=(bd (e.ab L J a0 0 65536) (fun p0=>(br (ax p0.1.1) (some ((none,(1,())),(d0,(d1,())))) (br (ax (aj (gM a0 8) 0)) (some ((none,(1,())),(d0,(d1,())))) (gd (bq a0) (gd (bw (nN a0) 16777216) (some (((some (len d0)),(0,())),((cat d0 [(some (len d1))]),((cat d1 [(some (rep (α:=Int) (nN a0) 0))]),()))))))))))
def e.eP (L:fX) (J:fY) (a0:Int) (a1:Int) (d0:T3) (d1:T4):(Option (((Option Nat)×(Int×Unit))×lu)):=(J _ _ (fun (k0:(Unit×U2)→_)=>(bd (e.ab L J a0 0 65536) (fun p1=>(br (ax p1.1.1) (some ((none,(1,())),(d0,(d1,())))) (bd (e.ab L J a1 0 65536) (fun p2=>(br (ax p2.1.1) (some ((none,(1,())),(d0,(d1,())))) (br (ax (aj (gM (bits BinOp.or IntKind.i64 a0 a1) 8) 0)) (some ((none,(1,())),(d0,(d1,())))) (k0 ((),((),((),((),()))))))))))))) (fun (s3:(Unit×U2))=>(br (ba 0 a1) (some (((some (len d0)),(0,())),((ah (0,(0,none)) (cat d0 [(a0,((ae IntKind.i64 a0 a1),none))]) (len d0) (fun r5=>(r5.1,(r5.2.1,(some (len d1)))))),((cat d1 [(some [(a0,a1)])]),())))) (some (((some (len d0)),(0,())),((cat d0 [(a0,((ae IntKind.i64 a0 a1),none))]),(d1,())))))))
def e.ck (L:fX) (J:fY) (a0:U4) (a1:Int) (a2:Int):(Option (ju×Unit)):=(J _ _ (fun (k0:gY→_)=>(bd (e.dL L J a0) (fun p1=>(br (ax p1.1.1) (k0 ((true,()),((),((),((),()))))) (bd (e.ab L J a1 0 4) (fun p2=>(k0 (((ax p2.1.1),()),((),((),((),()))))))))))) (fun (s3:gY)=>(br s3.1.1 (some ((0,(1,())),())) (bd (e.ab L J a2 0 (aI IntKind.i64 a0.1 1)) (fun p4=>(br (ax p4.1.1) (some ((0,(2,())),())) (some (((ae IntKind.i64 (cZ IntKind.i64 a2 64) (cZ IntKind.i64 a1 8)),(0,())),()))))))))
def e.cd (L:fX) (J:fY) (a0:Nat) (a1:Int) (c0:T1) (c1:T2):jK:=(opt (nth none c0 a0) (bd (e.ab L J a1 0 (-8)) (fun p0=>(br p0.1.1 (some (((aj (gM a1 8) 0),()),())) (some ((false,()),()))))) (fun p1=>(bd (aY c1 p1) (fun p2=>(bd (e.ab L J a1 0 (aI IntKind.i64 (zN (len p2)) 8)) (fun p3=>(br p3.1.1 (some (((aj (gM a1 8) 0),()),())) (some ((false,()),())))))))))
def e.eS (L:fX) (J:fY) (a0:Nat) (a1:Int) (a2:Int) (c0:T1) (k:(((Int×Unit)×(Unit×(Unit×(Unit×(T2×Unit)))))→(Option ((Int×Unit)×(T2×Unit))))) (s:((Int×Unit)×(Unit×(Unit×(Unit×(T2×Unit)))))):(Option ((Int×Unit)×(T2×Unit))):=(br (ba s.1.1 8) (opt (nth none c0 a0) (gd (bq (cZ IntKind.i64 8 s.1.1)) none) (fun p0=>(gd (bq (cZ IntKind.i64 8 s.1.1)) (bd (aY s.2.2.2.2.1 p0) (fun p1=>(gd (bq (ae IntKind.i64 a1 s.1.1)) (gd (bx (nN (ae IntKind.i64 a1 s.1.1)) (len p1)) (bd (aY s.2.2.2.2.1 p0) (fun p2=>(k (((ae IntKind.i64 s.1.1 1),()),((),((),((),((aZ s.2.2.2.2.1 p0 (some (aZ p2 (nN (ae IntKind.i64 a1 s.1.1)) (cN IntKind.u8 (ir IntKind.u64 a2 (cZ IntKind.i64 8 s.1.1)))))),()))))))))))))))) (some ((0,()),(s.2.2.2.2.1,()))))
def e.aX (L:fX) (J:fY) (a0:Nat) (a1:Int) (a2:Int) (c0:T1) (d0:T2):(Option ((Int×Unit)×(T2×Unit))):=(bd (e.cd L J a0 a1 c0 d0) (fun p0=>(br (ax p0.1.1) (some ((1,()),(d0,()))) (L _ _ (e.eS L J a0 a1 a2 c0) ((0,()),((),((),((),(d0,())))))))))
def e.aD (L:fX) (J:fY) (a0:((Option Nat)×(U4×Int))) (a1:Int) (a2:Int) (c0:T1) (d0:T2):(Option (Unit×(T2×Unit))):=(bd (e.ck L J a0.2.1 a1 a0.2.2) (fun p0=>(opt a0.1 none (fun p1=>(bd (e.aX L J p1 p0.1.1 a2 c0 d0) (fun p2=>(some ((),(p2.2.1,())))))))))
def e.j7 (L:fX) (J:fY) (a0:Int):oj:=(J _ _ (fun (k0:gY→_)=>(br (aj a0 0) (k0 ((true,()),((),((),((),()))))) (k0 (((aj a0 1),()),((),((),((),()))))))) (fun (s1:gY)=>(br s1.1.1 (some ((0,()),())) (br (aj a0 2) (some ((1,()),())) (br (aj a0 3) (some ((2,()),())) (some (((-1),()),())))))))
def e.eh (L:fX) (J:fY) (a0:U4):jK:=(bd (e.ab L J a0.2.2.2 0 16777215) (fun p0=>(br (ax p0.1.1) (some ((false,()),())) (bd (e.j7 L J a0.1) (fun p1=>(br (aj p1.1.1 0) (br (aj a0.2.1 0) (some (((aj a0.2.2.1 (-1)),()),())) (some ((false,()),()))) (br (aj p1.1.1 1) (bd (e.ab L J a0.2.1 1 7) (fun p2=>(br p2.1.1 (bd (e.ab L J a0.2.2.1 (-1) 7) (fun p3=>(some ((p3.1.1,()),())))) (some ((false,()),()))))) (br (aj p1.1.1 2) (br (aj a0.2.1 0) (bd (e.ab L J a0.2.2.1 (-1) 7) (fun p4=>(some ((p4.1.1,()),())))) (some ((false,()),()))) (some ((false,()),()))))))))))
def e.fG (L:fX) (J:fY) (a0:U4):(Option (ju×Unit)):=(bd (e.eh L J a0) (fun p0=>(br (ax p0.1.1) (some ((0,(1,())),())) (some (((bits BinOp.or IntKind.u64 (bits BinOp.or IntKind.u64 (bits BinOp.or IntKind.u64 (cN IntKind.u64 a0.1) (ki IntKind.u64 (cN IntKind.u64 a0.2.1) 2)) (ki IntKind.u64 (cN IntKind.u64 (ae IntKind.i64 a0.2.2.1 1)) 10)) (ki IntKind.u64 (cN IntKind.u64 a0.2.2.2) 18)),(0,())),())))))
def e.bz (L:fX) (J:fY) (a0:((Option Nat)×(U4×Int))) (a1:U4) (c0:T1) (d0:T2):(Option (Unit×(T2×Unit))):=(bd (e.fG L J a1) (fun p0=>(bd (e.aD L J a0 0 p0.1.1 c0 d0) (fun p1=>(some ((),(p1.2.1,())))))))
def e.iD (L:fX) (J:fY) (a0:U4) (d0:T1) (d1:T2) (d2:T3) (d3:T4):(Option (((Option Nat)×((Option Nat)×(Int×Unit)))×(T1×(T2×lu)))):=(bd (e.iA L J a0) (fun p0=>(br (ax (aj p0.1.2.1 0)) (some ((none,(none,(p0.1.2.1,()))),(d0,(d1,(d2,(d3,())))))) (bd (e.iG L J p0.1.1 d0 d1) (fun p1=>(opt p1.1.1 (bd (e.e_ L J a0) (fun p2=>(bd (e.eP L J p2.1.1.1 p2.1.1.2 d2 d3) (fun p3=>(opt p3.1.1 (bd (e.bK L J a0) (fun p4=>(bd (e.bz L J (none,(a0,0)) (2,(1,((-1),0))) p1.2.1 p1.2.2.1) (fun p5=>(bd (e.aD L J (none,(a0,0)) 1 (cN IntKind.u64 p4.1.1.1) p1.2.1 p5.2.1) (fun p6=>(bd (e.aD L J (none,(a0,0)) 2 (cN IntKind.u64 p4.1.1.2) p1.2.1 p6.2.1) (fun p7=>(some ((none,(none,(0,()))),(p1.2.1,(p7.2.1,(p3.2.1,(p3.2.2.1,())))))))))))))) (fun p8=>(bd (e.bK L J a0) (fun p9=>(bd (e.bz L J (none,(a0,0)) (2,(1,((-1),0))) p1.2.1 p1.2.2.1) (fun fm=>(bd (e.aD L J (none,(a0,0)) 1 (cN IntKind.u64 p9.1.1.1) p1.2.1 fm.2.1) (fun jE=>(bd (e.aD L J (none,(a0,0)) 2 (cN IntKind.u64 p9.1.1.2) p1.2.1 jE.2.1) (fun b0=>(some ((none,((some p8),(0,()))),(p1.2.1,(b0.2.1,(p3.2.1,(p3.2.2.1,())))))))))))))))))))) (fun b_=>(bd (e.e_ L J a0) (fun jr=>(bd (e.eP L J jr.1.1.1 jr.1.1.2 d2 d3) (fun cR=>(opt cR.1.1 (bd (e.bK L J a0) (fun dR=>(bd (e.bz L J ((some b_),(a0,0)) (2,(1,((-1),0))) p1.2.1 p1.2.2.1) (fun fl=>(bd (e.aD L J ((some b_),(a0,0)) 1 (cN IntKind.u64 dR.1.1.1) p1.2.1 fl.2.1) (fun eT=>(bd (e.aD L J ((some b_),(a0,0)) 2 (cN IntKind.u64 dR.1.1.2) p1.2.1 eT.2.1) (fun kf=>(some (((some b_),(none,(0,()))),(p1.2.1,(kf.2.1,(cR.2.1,(cR.2.2.1,())))))))))))))) (fun df=>(bd (e.bK L J a0) (fun kX=>(bd (e.bz L J ((some b_),(a0,0)) (2,(1,((-1),0))) p1.2.1 p1.2.2.1) (fun iR=>(bd (e.aD L J ((some b_),(a0,0)) 1 (cN IntKind.u64 kX.1.1.1) p1.2.1 iR.2.1) (fun eu=>(bd (e.aD L J ((some b_),(a0,0)) 2 (cN IntKind.u64 kX.1.1.2) p1.2.1 eu.2.1) (fun iQ=>(some (((some b_),((some df),(0,()))),(p1.2.1,(iQ.2.1,(cR.2.1,(cR.2.2.1,())))))))))))))))))))))))))))
def e.dy (L:fX) (J:fY) (a0:lM):(Option ((lM×Unit)×Unit)):=(gd (bw (aL 0 (len a0)) 16777216) (some (((cat [] a0),()),())))
def e.eZ (L:fX) (J:fY) (a0:(List (Int×(Int×(Int×U4))))):(Option (((List (Int×(Int×(Int×U4))))×Unit)×Unit)):=(gd (bw (aL 0 (len a0)) 16777216) (some (((cat [] a0),()),())))
def e.ik (L:fX) (J:fY) (a0:U4) (a2:qf) (d0:T0) (v0:(((Option Nat)×((Option Nat)×(Int×Unit)))×(T1×(T2×lu)))) (v1:((Int×Unit)×(Unit×(Unit×(Unit×(T0×(T9×Unit))))))) (k:(((Int×Unit)×(Unit×(Unit×(Unit×(T0×(T5×(T6×(T2×Unit))))))))→(Option U9))) (s:((Int×Unit)×(Unit×(Unit×(Unit×(T0×(T5×(T6×(T2×Unit))))))))):(Option U9):=(br (ba s.1.1 a0.2.1) (J _ _ (fun (k0:(Unit×(Unit×(Unit×(Unit×(T6×Unit)))))→_)=>(br (ba s.1.1 (zN (len a2))) (gd (bq s.1.1) (gd (bx (nN s.1.1) (len a2)) (bd (e.eZ L J (nth [] a2 (nN s.1.1))) (fun p1=>(k0 ((),((),((),((),((ah aE (cat s.2.2.2.2.2.2.1 [([],((some (len s.2.2.2.2.2.2.2.1)),([],(((0,(0,(0,(0,(0,(0,0)))))),(0,(0,(0,(0,([],(0,(0,(0,(0,([],(0,([],(0,(false,(false,(false,(0,(0,[]))))))))))))))))))),(false,0)))))]) (len s.2.2.2.2.2.2.1) (fun r2=>(p1.1.1,r2.2))),())))))))))) (k0 ((),((),((),((),((cat s.2.2.2.2.2.2.1 [([],((some (len s.2.2.2.2.2.2.2.1)),([],(((0,(0,(0,(0,(0,(0,0)))))),(0,(0,(0,(0,([],(0,(0,(0,(0,([],(0,([],(0,(false,(false,(false,(0,(0,[]))))))))))))))))))),(false,0)))))]),())))))))) (fun (s3:(Unit×(Unit×(Unit×(Unit×(T6×Unit))))))=>(opt (nth bn s.2.2.2.2.1 (len d0)).2.2.2.2.1 (gd (bw (len [(some (len s.2.2.2.2.2.2.1))]) 16777216) (k (((ae IntKind.i64 s.1.1 1),()),((),((),((),((ah bn s.2.2.2.2.1 (len d0) (fun r4=>(r4.1,(r4.2.1,(r4.2.2.1,(r4.2.2.2.1,((some (len s.2.2.2.2.2.1)),r4.2.2.2.2.2))))))),((cat s.2.2.2.2.2.1 [(some [(some (len s.2.2.2.2.2.2.1))])]),(s3.2.2.2.2.1,((cat s.2.2.2.2.2.2.2.1 [(some (rep (α:=Int) 4 0))]),())))))))))) (fun p5=>(bd (aY s.2.2.2.2.2.1 p5) (fun p6=>(gd (bw (aL (len p6) (len [(some (len s.2.2.2.2.2.2.1))])) 16777216) (gd (bx p5 (len s.2.2.2.2.2.1)) (k (((ae IntKind.i64 s.1.1 1),()),((),((),((),((ah bn s.2.2.2.2.1 (len d0) (fun r7=>(r7.1,(r7.2.1,(r7.2.2.1,(r7.2.2.2.1,((some (len (aZ s.2.2.2.2.2.1 p5 none))),r7.2.2.2.2.2))))))),((cat (aZ s.2.2.2.2.2.1 p5 none) [(some (cat p6 [(some (len s.2.2.2.2.2.2.1))]))]),(s3.2.2.2.2.1,((cat s.2.2.2.2.2.2.2.1 [(some (rep (α:=Int) 4 0))]),()))))))))))))))))) (some (((some (len d0)),(0,())),(s.2.2.2.2.1,(v0.2.1,(v0.2.2.1,(v0.2.2.2.1,(v0.2.2.2.2.1,(s.2.2.2.2.2.1,(s.2.2.2.2.2.2.1,(s.2.2.2.2.2.2.2.1,(v1.2.2.2.2.2.1,()))))))))))))
def e.cG (L:fX) (J:fY) (a0:U4) (a1:(List lM)) (a2:qf) (d0:T0) (d5:T5) (d6:T6) (d7:T2) (v0:(((Option Nat)×((Option Nat)×(Int×Unit)))×(T1×(T2×lu)))) (k:(((Int×Unit)×(Unit×(Unit×(Unit×(T0×(T9×Unit))))))→(Option U9))) (s:((Int×Unit)×(Unit×(Unit×(Unit×(T0×(T9×Unit))))))):(Option U9):=(br (ba s.1.1 (zN (len a1))) (gd (bq s.1.1) (gd (bx (nN s.1.1) (len a1)) (opt (nth bn s.2.2.2.2.1 (len d0)).2.1 (bd (e.dy L J (nth [] a1 (nN s.1.1))) (fun p0=>(gd (bw (len [p0.1.1]) 16777216) (k (((ae IntKind.i64 s.1.1 1),()),((),((),((),((ah bn s.2.2.2.2.1 (len d0) (fun r1=>(r1.1,((some (len s.2.2.2.2.2.1)),r1.2.2)))),((cat s.2.2.2.2.2.1 [(some [p0.1.1])]),())))))))))) (fun p2=>(bd (e.dy L J (nth [] a1 (nN s.1.1))) (fun p3=>(bd (aY s.2.2.2.2.2.1 p2) (fun p4=>(gd (bw (aL (len p4) (len [p3.1.1])) 16777216) (gd (bx p2 (len s.2.2.2.2.2.1)) (k (((ae IntKind.i64 s.1.1 1),()),((),((),((),((ah bn s.2.2.2.2.1 (len d0) (fun r5=>(r5.1,((some (len (aZ s.2.2.2.2.2.1 p2 none))),r5.2.2)))),((cat (aZ s.2.2.2.2.2.1 p2 none) [(some (cat p4 [p3.1.1]))]),()))))))))))))))))) (L _ _ (e.ik L J a0 a2 d0 v0 s) ((0,()),((),((),((),(s.2.2.2.2.1,(d5,(d6,(d7,()))))))))))
def e.gD (L:fX) (J:fY) (a2:qf) (d0:T0) (d1:T1) (d2:T2) (d3:T3) (d4:T4) (d5:T5) (d6:T6) (d7:T2) (d8:T9) (v0:(Unit×U2)→(Option U9)) (k:(U8→(Option U9))) (s:U8):(Option U9):=(br (ba s.1.1 (zN (len a2))) (gd (bq s.1.1) (gd (bx (nN s.1.1) (len a2)) (br (ba 64 (zN (len (nth [] a2 (nN s.1.1))))) (br (b9 0 s.1.1) (some ((none,(1,())),(d0,(d1,(d2,(d3,(d4,(d5,(d6,(d7,(d8,()))))))))))) (v0 ((),((),((),((),())))))) (k (((ae IntKind.i64 s.1.1 1),()),((),((),((),())))))))) (v0 ((),((),((),((),()))))))
def e.fN (L:fX) (J:fY) (a0:U4) (a1:(List lM)) (a2:qf) (c0:T7) (d0:T0) (d1:T1) (d2:T2) (d3:T3) (d4:T4) (d5:T5) (d6:T6) (d7:T2) (d8:T9):(Option U9):=(J _ _ (fun (k0:(Unit×U2)→_)=>(bd (e.dL L J a0) (fun p1=>(br (ax p1.1.1) (some ((none,(1,())),(d0,(d1,(d2,(d3,(d4,(d5,(d6,(d7,(d8,()))))))))))) (bd (e.gy L J a1) (fun p2=>(br (ax p2.1.1) (some ((none,(1,())),(d0,(d1,(d2,(d3,(d4,(d5,(d6,(d7,(d8,()))))))))))) (br (ba a0.2.1 (zN (len a2))) (some ((none,(1,())),(d0,(d1,(d2,(d3,(d4,(d5,(d6,(d7,(d8,()))))))))))) (L _ _ (e.gD L J a2 d0 d1 d2 d3 d4 d5 d6 d7 d8 k0) ((0,()),((),((),((),()))))))))))))) (fun (s5:(Unit×U2))=>(bd (e.iD L J a0 d1 d2 d3 d4) (fun p6=>(opt p6.1.1 (opt p6.1.2.1 (L _ _ (e.cG L J a0 a1 a2 d0 d5 d6 d7 p6) ((0,()),((),((),((),((cat d0 [(a0,(none,(none,(none,(none,(none,0))))))]),(d8,()))))))) (fun df=>(L _ _ (e.cG L J a0 a1 a2 d0 d5 d6 d7 p6) ((0,()),((),((),((),((cat d0 [(a0,(none,(none,((some df),(none,(none,0))))))]),(d8,()))))))))) (fun tI=>(opt p6.1.2.1 (L _ _ (e.cG L J a0 a1 a2 d0 d5 d6 d7 p6) ((0,()),((),((),((),((cat d0 [(a0,(none,((some tI),(none,(none,(none,0))))))]),(d8,()))))))) (fun xB=>(L _ _ (e.cG L J a0 a1 a2 d0 d5 d6 d7 p6) ((0,()),((),((),((),((cat d0 [(a0,(none,((some tI),((some xB),(none,(none,0))))))]),(d8,())))))))))))))))
def e.bf (L:fX) (J:fY) (a0:Nat) (c0:T6) (c1:T2):jK:=(br (ax (nth aE c0 a0).2.2.2.2.1) (some (((aj (zN (len (nth aE c0 a0).1)) 0),()),())) (some ((false,()),())))
def e.bo (L:fX) (J:fY) (a0:mz):(Option ((mz×Unit)×Unit)):=(gd (bw (aL 0 (len a0)) 16777216) (some (((cat [] a0),()),())))
def e.cD (L:fX) (J:fY) (a0:mz):oj:=(br (aj (zN (len a0)) 0) (some ((0,()),())) (gd (bq (aI IntKind.i64 (zN (len a0)) 1)) (gd (bx (nN (aI IntKind.i64 (zN (len a0)) 1)) (len a0)) (some (((nth (0,false) a0 (nN (aI IntKind.i64 (zN (len a0)) 1))).1,()),())))))
def e.bS (L:fX) (J:fY) (a0:mz) (a1:(Int×Bool)):(Option ((mz×(Int×Unit))×Unit)):=(br (b9 6 (zN (len a0))) (some (([],(24,())),())) (gd (bq (ae IntKind.i64 (zN (len a0)) 1)) (gd (bw (nN (ae IntKind.i64 (zN (len a0)) 1)) 16777216) (gd (bx 0 (len (rep (α:=(Int×Bool)) (nN (ae IntKind.i64 (zN (len a0)) 1)) (0,false)))) (gd (bw (len a0) (len (rep (α:=(Int×Bool)) (nN (ae IntKind.i64 (zN (len a0)) 1)) (0,false)))) (gd (bq (zN (len a0))) (gd (bx (nN (zN (len a0))) (len (cat a0 (dr (len a0) (rep (α:=(Int×Bool)) (nN (ae IntKind.i64 (zN (len a0)) 1)) (0,false)))))) (some (((aZ (cat a0 (dr (len a0) (rep (α:=(Int×Bool)) (nN (ae IntKind.i64 (zN (len a0)) 1)) (0,false)))) (nN (zN (len a0))) a1),(0,())),())))))))))
def e.iF (L:fX) (J:fY) (a0:mz):(Option ((mz×((Int×Bool)×(Int×Unit)))×Unit)):=(br (ba (aI IntKind.i64 (zN (len a0)) 1) 0) (some (([],((0,false),(23,()))),())) (gd (bq (aI IntKind.i64 (zN (len a0)) 1)) (gd (bw 0 (nN (aI IntKind.i64 (zN (len a0)) 1))) (gd (bw (nN (aI IntKind.i64 (zN (len a0)) 1)) (len a0)) (bd (e.bo L J (tk (ay (nN (aI IntKind.i64 (zN (len a0)) 1)) 0) (dr 0 a0))) (fun p0=>(gd (bq (aI IntKind.i64 (zN (len a0)) 1)) (gd (bx (nN (aI IntKind.i64 (zN (len a0)) 1)) (len a0)) (some ((p0.1.1,((nth (0,false) a0 (nN (aI IntKind.i64 (zN (len a0)) 1))),(0,()))),()))))))))))
def e.gA (L:fX) (J:fY) (a0:mz) (a1:Int) (k:(U8→oj)) (s:U8):oj:=(br (ba s.1.1 (zN (len a0))) (gd (bq s.1.1) (gd (bx (nN s.1.1) (len a0)) (br (iw (aj a1 (nth (0,false) a0 (nN s.1.1)).1) (iw (pZ true (nth (0,false) a0 (nN s.1.1)).2) true)) (some ((s.1.1,()),())) (k (((ae IntKind.i64 s.1.1 1),()),((),((),((),())))))))) (some (((-1),()),())))
def e.jh (L:fX) (J:fY) (a0:mz) (a1:Int):oj:=(L _ _ (e.gA L J a0 a1) ((0,()),((),((),((),())))))
def e.bc (L:fX) (J:fY) (a0:mz) (a1:Int):jK:=(br (aj a1 0) (some ((true,()),())) (bd (e.jh L J a0 a1) (fun p0=>(some (((b9 0 p0.1.1),()),())))))
def e.jk (L:fX) (J:fY) (a0:(List Int)) (k:(U8→jK)) (s:U8):jK:=(br (ba s.1.1 (zN (len a0))) (gd (bq s.1.1) (gd (bx (nN s.1.1) (len a0)) (br (b9 4 (nth 0 a0 (nN s.1.1))) (some (((ax (b9 0 s.1.1)),()),())) (k (((ae IntKind.i64 s.1.1 1),()),((),((),((),())))))))) (some ((true,()),())))
def e.b5 (L:fX) (J:fY) (a0:(List Int)):jK:=(L _ _ (e.jk L J a0) ((0,()),((),((),((),())))))
def e.jl (L:fX) (J:fY) (a0:(List Int)) (k:(U8→oj)) (s:U8):oj:=(br (ba s.1.1 (zN (len a0))) (gd (bq s.1.1) (gd (bx (nN s.1.1) (len a0)) (br (ax (aj (nth 0 a0 (nN s.1.1)) 0)) (some (((nth 0 a0 (nN s.1.1)),()),())) (k (((ae IntKind.i64 s.1.1 1),()),((),((),((),())))))))) (some ((0,()),())))
def e.aw (L:fX) (J:fY) (a0:(List Int)):oj:=(L _ _ (e.jl L J a0) ((0,()),((),((),((),())))))
def e.lF (L:fX) (J:fY) (a0:Int) (a1:Int):(Option (ju×Unit)):=(br (ax (pZ (ba a0 (ae IntKind.i64 a0 a1)) (ba 0 a1))) (some ((0,(3,())),())) (some (((ae IntKind.i64 a0 a1),(0,())),())))
def e.mq (L:fX) (J:fY) (a0:Int):(Option (ju×Unit)):=(br (ba a0 0) (some ((0,(1,())),())) (bd (e.lF L J a0 7) (fun p0=>(br (ax (aj p0.1.2.1 0)) (some ((0,(p0.1.2.1,())),())) (some (((bits BinOp.andNot IntKind.i64 p0.1.1 7),(0,())),()))))))
def e.bP (L:fX) (J:fY) (a0:(U4×(mz×((Int×(Int×(Int×U4)))×(Int×Int))))):oj:=(br (aj a0.2.2.1.1 0) (some ((0,()),())) (br (aj a0.2.2.1.1 1) (bd (e.b5 L J [a0.2.2.1.2.1]) (fun p0=>(br (ax p0.1.1) (some ((1,()),())) (some ((0,()),()))))) (br (aj a0.2.2.1.1 2) (bd (e.ab L J a0.2.2.1.2.2.2.2.1 1 8192) (fun p1=>(br (ax p1.1.1) (some ((1,()),())) (some ((0,()),()))))) (br (aj a0.2.2.1.1 3) (bd (e.ab L J a0.2.2.1.2.2.2.2.1 1 (aI IntKind.i64 a0.1.1 1)) (fun p2=>(br (ax p2.1.1) (some ((11,()),())) (some ((0,()),()))))) (br (aj a0.2.2.1.1 4) (bd (e.ab L J a0.2.2.1.2.2.2.2.1 1 (aI IntKind.i64 a0.1.1 1)) (fun p3=>(br (ax p3.1.1) (bd (e.bS L J a0.2.1 (0,false)) (fun p4=>(bd (e.aw L J [11,p4.1.2.1]) (fun p5=>(some ((p5.1.1,()),())))))) (bd (e.bS L J a0.2.1 (0,false)) (fun p6=>(bd (e.aw L J [0,p6.1.2.1]) (fun p7=>(some ((p7.1.1,()),()))))))))) (br (aj a0.2.2.1.1 6) (bd (e.ab L J a0.2.2.1.2.2.2.2.1 0 (aI IntKind.i64 a0.1.1 1)) (fun p8=>(br (ax p8.1.1) (bd (e.bc L J a0.2.1 a0.2.2.1.2.2.2.2.1) (fun p9=>(br (ax p9.1.1) (bd (e.bS L J a0.2.1 (0,false)) (fun fm=>(bd (e.aw L J [11,20,fm.1.2.1]) (fun jE=>(some ((jE.1.1,()),())))))) (bd (e.bS L J a0.2.1 (0,false)) (fun b0=>(bd (e.aw L J [11,0,b0.1.2.1]) (fun b_=>(some ((b_.1.1,()),()))))))))) (bd (e.bc L J a0.2.1 a0.2.2.1.2.2.2.2.1) (fun jr=>(br (ax jr.1.1) (bd (e.bS L J a0.2.1 (0,false)) (fun cR=>(bd (e.aw L J [0,20,cR.1.2.1]) (fun dR=>(some ((dR.1.1,()),())))))) (bd (e.bS L J a0.2.1 (0,false)) (fun fl=>(bd (e.aw L J [0,0,fl.1.2.1]) (fun eT=>(some ((eT.1.1,()),())))))))))))) (br (aj a0.2.2.1.1 5) (bd (e.iF L J a0.2.1) (fun kf=>(some ((kf.1.2.2.1,()),())))) (br (aj a0.2.2.1.1 7) (bd (g.gp a0.2.2.1.2.2.2.2.1 a0.2.2.1.2.2.2.2.2.1) (fun df=>(bd (e.b5 L J [a0.2.2.1.2.1]) (fun kX=>(br kX.1.1 (bd (e.ab L J a0.2.2.1.2.2.2.2.2.2 0 7) (fun iR=>(br (ax iR.1.1) (bd (e.aw L J [1,df.1.2.1]) (fun eu=>(some ((eu.1.1,()),())))) (bd (e.aw L J [0,df.1.2.1]) (fun iQ=>(some ((iQ.1.1,()),()))))))) (bd (e.aw L J [1,df.1.2.1]) (fun d_=>(some ((d_.1.1,()),()))))))))) (br (aj a0.2.2.1.1 8) (bd (e.b5 L J [a0.2.2.1.2.1,a0.2.2.1.2.2.1]) (fun du=>(br (ax du.1.1) (bd (g.b6 a0.1 a0.2.1 a0.2.2.2.1) (fun kO=>(bd (e.aw L J [1,kO.1.2.1]) (fun ml=>(some ((ml.1.1,()),())))))) (bd (g.b6 a0.1 a0.2.1 a0.2.2.2.1) (fun iP=>(bd (e.aw L J [0,iP.1.2.1]) (fun HZ=>(some ((HZ.1.1,()),()))))))))) (br (aj a0.2.2.1.1 9) (bd (e.b5 L J [a0.2.2.1.2.2.1,a0.2.2.1.2.2.2.1]) (fun NO=>(br (ax NO.1.1) (bd (g.b6 a0.1 a0.2.1 a0.2.2.2.1) (fun Dp=>(bd (e.aw L J [1,Dp.1.2.1]) (fun Dn=>(some ((Dn.1.1,()),())))))) (bd (g.b6 a0.1 a0.2.1 a0.2.2.2.1) (fun tI=>(bd (e.aw L J [0,tI.1.2.1]) (fun S8=>(some ((S8.1.1,()),()))))))))) (br (aj a0.2.2.1.1 10) (bd (e.b5 L J [a0.2.2.1.2.1]) (fun HY=>(br (ax HY.1.1) (bd (e.ab L J a0.2.2.1.2.2.2.2.1 1 (aI IntKind.i64 a0.1.1 1)) (fun HX=>(br (ax HX.1.1) (bd (e.bc L J a0.2.1 a0.2.2.1.2.2.2.2.1) (fun HW=>(br (ax HW.1.1) (bd (e.aw L J [1,11,20]) (fun HV=>(some ((HV.1.1,()),())))) (bd (e.aw L J [1,11,0]) (fun Dm=>(some ((Dm.1.1,()),()))))))) (bd (e.bc L J a0.2.1 a0.2.2.1.2.2.2.2.1) (fun HU=>(br (ax HU.1.1) (bd (e.aw L J [1,0,20]) (fun HR=>(some ((HR.1.1,()),())))) (bd (e.aw L J [1,0,0]) (fun bN=>(some ((bN.1.1,()),())))))))))) (bd (e.ab L J a0.2.2.1.2.2.2.2.1 1 (aI IntKind.i64 a0.1.1 1)) (fun HQ=>(br (ax HQ.1.1) (bd (e.bc L J a0.2.1 a0.2.2.1.2.2.2.2.1) (fun S7=>(br (ax S7.1.1) (bd (e.aw L J [0,11,20]) (fun xD=>(some ((xD.1.1,()),())))) (bd (e.aw L J [0,11,0]) (fun xC=>(some ((xC.1.1,()),()))))))) (bd (e.bc L J a0.2.1 a0.2.2.1.2.2.2.2.1) (fun xB=>(br (ax xB.1.1) (bd (e.aw L J [0,0,20]) (fun HP=>(some ((HP.1.1,()),())))) (bd (e.aw L J [0,0,0]) (fun Dl=>(some ((Dl.1.1,()),()))))))))))))) (br (aj a0.2.2.1.1 11) (J _ _ (fun (rX:U8→_)=>(bd (e.b5 L J [a0.2.2.1.2.2.2.1]) (fun Dj=>(br (ax Dj.1.1) (bd (e.ab L J a0.2.2.1.2.2.2.2.1 1 (aI IntKind.i64 a0.1.1 1)) (fun Ao=>(br (ax Ao.1.1) (bd (e.bc L J a0.2.1 a0.2.2.1.2.2.2.2.1) (fun xA=>(br (ax xA.1.1) (bd (e.aw L J [1,11,20]) (fun uI=>(rX ((uI.1.1,()),((),((),((),()))))))) (bd (e.aw L J [1,11,0]) (fun tH=>(rX ((tH.1.1,()),((),((),((),())))))))))) (bd (e.bc L J a0.2.1 a0.2.2.1.2.2.2.2.1) (fun Cy=>(br (ax Cy.1.1) (bd (e.aw L J [1,0,20]) (fun wk=>(rX ((wk.1.1,()),((),((),((),()))))))) (bd (e.aw L J [1,0,0]) (fun xz=>(rX ((xz.1.1,()),((),((),((),()))))))))))))) (bd (e.ab L J a0.2.2.1.2.2.2.2.1 1 (aI IntKind.i64 a0.1.1 1)) (fun An=>(br (ax An.1.1) (bd (e.bc L J a0.2.1 a0.2.2.1.2.2.2.2.1) (fun NN=>(br (ax NN.1.1) (bd (e.aw L J [0,11,20]) (fun NM=>(rX ((NM.1.1,()),((),((),((),()))))))) (bd (e.aw L J [0,11,0]) (fun rH=>(rX ((rH.1.1,()),((),((),((),())))))))))) (bd (e.bc L J a0.2.1 a0.2.2.1.2.2.2.2.1) (fun S6=>(br (ax S6.1.1) (bd (e.aw L J [0,0,20]) (fun qm=>(rX ((qm.1.1,()),((),((),((),()))))))) (bd (e.aw L J [0,0,0]) (fun Di=>(rX ((Di.1.1,()),((),((),((),()))))))))))))))))) (fun (HB:U8)=>(br (aj HB.1.1 0) (br (ax (aj a0.2.2.2.2 0)) (bd (g.b6 a0.1 a0.2.1 a0.2.2.2.2) (fun HO=>(some ((HO.1.2.1,()),())))) (some ((HB.1.1,()),()))) (some ((HB.1.1,()),()))))) (some ((1,()),()))))))))))))))
def e.cL (L:fX) (J:fY) (a0:(U4×(mz×((Int×(Int×(Int×U4)))×(Int×Int))))):oj:=(J _ _ (fun (k0:gY→_)=>(br (aj a0.2.2.1.1 2) (k0 ((true,()),((),((),((),()))))) (k0 (((aj a0.2.2.1.1 3),()),((),((),((),()))))))) (fun (s1:gY)=>(br s1.1.1 (some ((1,()),())) (br (aj a0.2.2.1.1 4) (some ((13,()),())) (br (aj a0.2.2.1.1 5) (gd (bq (aI IntKind.i64 (zN (len a0.2.1)) 1)) (gd (bx (nN (aI IntKind.i64 (zN (len a0.2.1)) 1)) (len a0.2.1)) (br (nth (0,false) a0.2.1 (nN (aI IntKind.i64 (zN (len a0.2.1)) 1))).2 (some ((15,()),())) (some ((0,()),()))))) (J _ _ (fun (k2:gY→_)=>(br (aj a0.2.2.1.1 7) (k2 ((true,()),((),((),((),()))))) (br (aj a0.2.2.1.1 8) (k2 ((true,()),((),((),((),()))))) (k2 (((aj a0.2.2.1.1 9),()),((),((),((),())))))))) (fun (s3:gY)=>(br s3.1.1 (some ((5,()),())) (br (aj a0.2.2.1.1 10) (some ((11,()),())) (br (aj a0.2.2.1.1 11) (br (aj a0.2.2.2.2 0) (some ((12,()),())) (some ((7,()),()))) (some ((0,()),()))))))))))))
def e.gh (L:fX) (J:fY) (a0:U4) (a1:(Option Nat)) (a2:mz) (a3:(Int×(Int×(Int×U4)))) (c0:T2):(Option ((U1×Unit)×Unit)):=(br (b9 4 a3.2.2.1) (br (b9 4 a3.2.2.2.1) (bd (e.cD L J a2) (fun p0=>(bd (e.bo L J a2) (fun p1=>(bd (e.bP L J (a0,(a2,(a3,(0,0))))) (fun p2=>(br (aj p2.1.1 0) (bd (e.cL L J (a0,(a2,(a3,(0,0))))) (fun p3=>(some (((a3,(p3.1.1,(p0.1.1,(0,(0,(p1.1.1,(0,(0,(0,(0,([],(0,([],(0,(false,(false,(false,(p2.1.1,(0,[]))))))))))))))))))),()),())))) (some (((a3,(0,(p0.1.1,(0,(0,(p1.1.1,(0,(0,(0,(0,([],(0,([],(0,(false,(false,(false,(p2.1.1,(0,[]))))))))))))))))))),()),()))))))))) (opt a1 none (fun p4=>(bd (aY c0 p4) (fun p5=>(gd (bq a3.2.2.2.1) (gd (bx (nN a3.2.2.2.1) (len p5)) (bd (aY c0 p4) (fun p6=>(bd (e.cD L J a2) (fun p7=>(bd (e.bo L J a2) (fun p8=>(bd (e.bP L J (a0,(a2,(a3,(0,(nth 0 p6 (nN a3.2.2.2.1))))))) (fun p9=>(br (aj p9.1.1 0) (bd (e.cL L J (a0,(a2,(a3,(0,(nth 0 p6 (nN a3.2.2.2.1))))))) (fun fm=>(some (((a3,(fm.1.1,(p7.1.1,(0,((nth 0 p6 (nN a3.2.2.2.1)),(p8.1.1,(0,(0,(0,(0,([],(0,([],(0,(false,(false,(false,(p9.1.1,(0,[]))))))))))))))))))),()),())))) (some (((a3,(0,(p7.1.1,(0,((nth 0 p6 (nN a3.2.2.2.1)),(p8.1.1,(0,(0,(0,(0,([],(0,([],(0,(false,(false,(false,(p9.1.1,(0,[]))))))))))))))))))),()),())))))))))))))))))) (opt a1 none (fun jE=>(bd (aY c0 jE) (fun b0=>(gd (bq a3.2.2.1) (gd (bx (nN a3.2.2.1) (len b0)) (bd (aY c0 jE) (fun b_=>(br (b9 4 a3.2.2.2.1) (bd (e.cD L J a2) (fun jr=>(bd (e.bo L J a2) (fun cR=>(bd (e.bP L J (a0,(a2,(a3,((nth 0 b_ (nN a3.2.2.1)),0))))) (fun dR=>(br (aj dR.1.1 0) (bd (e.cL L J (a0,(a2,(a3,((nth 0 b_ (nN a3.2.2.1)),0))))) (fun fl=>(some (((a3,(fl.1.1,(jr.1.1,((nth 0 b_ (nN a3.2.2.1)),(0,(cR.1.1,(0,(0,(0,(0,([],(0,([],(0,(false,(false,(false,(dR.1.1,(0,[]))))))))))))))))))),()),())))) (some (((a3,(0,(jr.1.1,((nth 0 b_ (nN a3.2.2.1)),(0,(cR.1.1,(0,(0,(0,(0,([],(0,([],(0,(false,(false,(false,(dR.1.1,(0,[]))))))))))))))))))),()),()))))))))) (opt a1 none (fun eT=>(bd (aY c0 eT) (fun kf=>(gd (bq a3.2.2.2.1) (gd (bx (nN a3.2.2.2.1) (len kf)) (bd (aY c0 eT) (fun df=>(bd (e.cD L J a2) (fun kX=>(bd (e.bo L J a2) (fun iR=>(bd (e.bP L J (a0,(a2,(a3,((nth 0 b_ (nN a3.2.2.1)),(nth 0 df (nN a3.2.2.2.1))))))) (fun eu=>(br (aj eu.1.1 0) (bd (e.cL L J (a0,(a2,(a3,((nth 0 b_ (nN a3.2.2.1)),(nth 0 df (nN a3.2.2.2.1))))))) (fun iQ=>(some (((a3,(iQ.1.1,(kX.1.1,((nth 0 b_ (nN a3.2.2.1)),((nth 0 df (nN a3.2.2.2.1)),(iR.1.1,(0,(0,(0,(0,([],(0,([],(0,(false,(false,(false,(eu.1.1,(0,[]))))))))))))))))))),()),())))) (some (((a3,(0,(kX.1.1,((nth 0 b_ (nN a3.2.2.1)),((nth 0 df (nN a3.2.2.2.1)),(iR.1.1,(0,(0,(0,(0,([],(0,([],(0,(false,(false,(false,(eu.1.1,(0,[]))))))))))))))))))),()),())))))))))))))))))))))))))))
def e.cw (L:fX) (J:fY) (a0:(List Int)):yC:=(gd (bw (aL 0 (len a0)) 16777216) (some (((cat [] a0),()),())))
def e.bA (L:fX) (J:fY) (a0:U1) (a1:Int) (a2:Int):(Option ((U1×Unit)×Unit)):=(bd (e.cw L J a0.2.2.2.2.2.2.2.2.2.2.2.2.1) (fun p0=>(some (((a0.1,(a0.2.1,(a0.2.2.1,(a0.2.2.2.1,(a0.2.2.2.2.1,(a0.2.2.2.2.2.1,(a0.2.2.2.2.2.2.1,(a0.2.2.2.2.2.2.2.1,(a0.2.2.2.2.2.2.2.2.1,(a0.2.2.2.2.2.2.2.2.2.1,(a0.2.2.2.2.2.2.2.2.2.2.1,(a0.2.2.2.2.2.2.2.2.2.2.2.1,(a0.2.2.2.2.2.2.2.2.2.2.2.2.1,(a0.2.2.2.2.2.2.2.2.2.2.2.2.2.1,(a0.2.2.2.2.2.2.2.2.2.2.2.2.2.2.1,(true,(true,(a1,(a2,p0.1.1))))))))))))))))))),()),()))))
def e.dY (L:fX) (J:fY) (a0:Nat) (a1:Int) (c0:T1) (c1:T2) (k:((ju×U2)→(Option (ju×Unit)))) (s:(ju×U2)):(Option (ju×Unit)):=(br (ba s.1.2.1 8) (opt (nth none c0 a0) none (fun p0=>(bd (aY c1 p0) (fun p1=>(gd (bq (ae IntKind.i64 a1 s.1.2.1)) (gd (bx (nN (ae IntKind.i64 a1 s.1.2.1)) (len p1)) (bd (aY c1 p0) (fun p2=>(gd (bq (cZ IntKind.i64 8 s.1.2.1)) (k (((bits BinOp.or IntKind.u64 s.1.1 (ki IntKind.u64 (cN IntKind.u64 (nth 0 p2 (nN (ae IntKind.i64 a1 s.1.2.1)))) (cZ IntKind.i64 8 s.1.2.1))),((ae IntKind.i64 s.1.2.1 1),())),((),((),((),())))))))))))))) (some ((s.1.1,(0,())),())))
def e.aN (L:fX) (J:fY) (a0:Nat) (a1:Int) (c0:T1) (c1:T2):(Option (ju×Unit)):=(bd (e.cd L J a0 a1 c0 c1) (fun p0=>(br (ax p0.1.1) (some ((0,(1,())),())) (L _ _ (e.dY L J a0 a1 c0 c1) ((0,(0,())),((),((),((),()))))))))
def e.fF (L:fX) (J:fY) (a0:Int) (a1:Int) (a2:Int):oj:=(gd (bq a1) (gd (bq a2) (some (((cN IntKind.i64 (bits BinOp.and IntKind.u64 (ir IntKind.u64 a0 a1) (aI IntKind.u64 (ki IntKind.u64 1 a2) 1))),()),()))))
def e.c_ (L:fX) (J:fY) (a0:Int):(Option ((U4×(Int×Unit))×Unit)):=(bd (e.fF L J a0 0 2) (fun p0=>(bd (e.fF L J a0 2 8) (fun p1=>(bd (e.fF L J a0 10 8) (fun p2=>(bd (e.fF L J a0 18 24) (fun p3=>(bd (e.eh L J (p0.1.1,(p1.1.1,((aI IntKind.i64 p2.1.1 1),p3.1.1)))) (fun p4=>(br (ax p4.1.1) (some (((0,(0,(0,0))),(1,())),())) (br (ax (aj (ir IntKind.u64 a0 42) 0)) (some (((0,(0,(0,0))),(1,())),())) (some (((p0.1.1,(p1.1.1,((aI IntKind.i64 p2.1.1 1),p3.1.1))),(0,())),()))))))))))))))
def e.fb (L:fX) (J:fY) (a0:U4) (a1:Nat) (a2:Int) (c0:T1) (c1:T2):(Option ((U4×(Int×Unit))×Unit)):=(bd (e.ck L J a0 0 a2) (fun p0=>(br (ax (aj p0.1.2.1 0)) (some (((0,(0,(0,0))),(11,())),())) (bd (e.aN L J a1 p0.1.1 c0 c1) (fun p1=>(bd (e.c_ L J p1.1.1) (fun p2=>(br (ax (aj p2.1.2.1 0)) (some (((0,(0,(0,0))),(11,())),())) (some ((p2.1.1,(0,())),()))))))))))
def e.eR (L:fX) (J:fY) (a1:Int) (d1:T4) (v0:(List (Int×Int))) (v1:Nat) (v2:U8→(Option ((Int×(Bool×Unit))×lu))) (k:(U8→(Option ((Int×(Bool×Unit))×lu)))) (s:U8):(Option ((Int×(Bool×Unit))×lu)):=(br (ba s.1.1 (zN (len v0))) (bd (aY d1 v1) (fun p0=>(gd (bq s.1.1) (gd (bx (nN s.1.1) (len p0)) (bd (aY d1 v1) (fun p1=>(br (b9 a1 (nth (0,0) p1 (nN s.1.1)).2) (v2 ((s.1.1,()),((),((),((),()))))) (k (((ae IntKind.i64 s.1.1 1),()),((),((),((),())))))))))))) (v2 (((-1),()),((),((),((),()))))))
def e.eQ (L:fX) (J:fY) (v0:U8→(Option ((Int×(Bool×Unit))×lu))) (k:(U8→(Option ((Int×(Bool×Unit))×lu)))) (s:U8):(Option ((Int×(Bool×Unit))×lu)):=(br (ba s.1.1 0) none (v0 (((-1),()),((),((),((),()))))))
def e.dW (L:fX) (J:fY) (a0:Nat) (a1:Int) (d0:T3) (d1:T4):(Option ((Int×(Bool×Unit))×lu)):=(J _ _ (fun (k0:(Unit×U2)→_)=>(br (ba a1 1) (some ((0,(false,())),(d0,(d1,())))) (br (ax (aj (gM a1 8) 0)) (some ((0,(false,())),(d0,(d1,())))) (k0 ((),((),((),((),())))))))) (fun (s1:(Unit×U2))=>(J _ _ (fun (k2:U8→_)=>(opt (nth (0,(0,none)) d0 a0).2.2 (L _ _ (e.eQ L J k2) ((0,()),((),((),((),()))))) (fun p5=>(bd (aY d1 p5) (fun p6=>(L _ _ (e.eR L J a1 d1 p6 p5 k2) ((0,()),((),((),((),())))))))))) (fun (aG:U8)=>(br (ba aG.1.1 0) (some ((0,(false,())),(d0,(d1,())))) (opt (nth (0,(0,none)) d0 a0).2.2 none (fun b0=>(bd (aY d1 b0) (fun b_=>(gd (bq aG.1.1) (gd (bx (nN aG.1.1) (len b_)) (bd (aY d1 b0) (fun jr=>(bd (aY d1 b0) (fun cR=>(bd (aY d1 b0) (fun dR=>(bd (aY d1 b0) (fun fl=>(bd (aY (aZ d1 b0 (some (ah (0,0) fl (nN aG.1.1) (fun Da=>((ae IntKind.i64 (nth (0,0) cR (nN aG.1.1)).1 a1),Da.2))))) b0) (fun eT=>(bd (aY (aZ (aZ d1 b0 (some (ah (0,0) fl (nN aG.1.1) (fun HJ=>((ae IntKind.i64 (nth (0,0) cR (nN aG.1.1)).1 a1),HJ.2))))) b0 (some (ah (0,0) eT (nN aG.1.1) (fun HJ=>(HJ.1,(aI IntKind.i64 (nth (0,0) dR (nN aG.1.1)).2 a1)))))) b0) (fun kf=>(br (aj (nth (0,0) kf (nN aG.1.1)).2 0) (opt (nth (0,(0,none)) d0 a0).2.2 (gd (D0 0 (ae IntKind.i64 aG.1.1 1)) (gd (bq aG.1.1) (gd (bq (ae IntKind.i64 aG.1.1 1)) (gd (bw (nN aG.1.1) (nN (ae IntKind.i64 aG.1.1 1))) (gd (bw (nN (ae IntKind.i64 aG.1.1 1)) 0) (br (aj aG.1.1 (ae IntKind.i64 aG.1.1 1)) (some (((nth (0,0) jr (nN aG.1.1)).1,(true,())),((ah (0,(0,none)) d0 a0 (fun kG=>(kG.1,(kG.2.1,none)))),((aZ (aZ d1 b0 (some (ah (0,0) fl (nN aG.1.1) (fun kG=>((ae IntKind.i64 (nth (0,0) cR (nN aG.1.1)).1 a1),kG.2))))) b0 (some (ah (0,0) eT (nN aG.1.1) (fun kG=>(kG.1,(aI IntKind.i64 (nth (0,0) dR (nN aG.1.1)).2 a1)))))),())))) (gd (bq aG.1.1) (gd (bw 0 (nN aG.1.1)) (gd (bw (nN aG.1.1) 0) (gd (bq (ae IntKind.i64 aG.1.1 1)) (gd (bw (nN (ae IntKind.i64 aG.1.1 1)) 0) (gd (bx 0 0) (some (((nth (0,0) jr (nN aG.1.1)).1,(true,())),((ah (0,(0,none)) d0 a0 (fun kG=>(kG.1,(kG.2.1,(some (len (aZ (aZ d1 b0 (some (ah (0,0) fl (nN aG.1.1) (fun sV=>((ae IntKind.i64 (nth (0,0) cR (nN aG.1.1)).1 a1),sV.2))))) b0 (some (ah (0,0) eT (nN aG.1.1) (fun sV=>(sV.1,(aI IntKind.i64 (nth (0,0) dR (nN aG.1.1)).2 a1)))))))))))),((cat (aZ (aZ d1 b0 (some (ah (0,0) fl (nN aG.1.1) (fun kG=>((ae IntKind.i64 (nth (0,0) cR (nN aG.1.1)).1 a1),kG.2))))) b0 (some (ah (0,0) eT (nN aG.1.1) (fun kG=>(kG.1,(aI IntKind.i64 (nth (0,0) dR (nN aG.1.1)).2 a1)))))) [(some (cat (tk 0 []) (cat (rep (α:=(Int×Int)) 0 (0,0)) (dr 0 []))))]),())))))))))))))))) (fun df=>(bd (aY (aZ (aZ d1 b0 (some (ah (0,0) fl (nN aG.1.1) (fun sV=>((ae IntKind.i64 (nth (0,0) cR (nN aG.1.1)).1 a1),sV.2))))) b0 (some (ah (0,0) eT (nN aG.1.1) (fun sV=>(sV.1,(aI IntKind.i64 (nth (0,0) dR (nN aG.1.1)).2 a1)))))) df) (fun kX=>(bd (aY (aZ (aZ d1 b0 (some (ah (0,0) fl (nN aG.1.1) (fun HI=>((ae IntKind.i64 (nth (0,0) cR (nN aG.1.1)).1 a1),HI.2))))) b0 (some (ah (0,0) eT (nN aG.1.1) (fun HI=>(HI.1,(aI IntKind.i64 (nth (0,0) dR (nN aG.1.1)).2 a1)))))) df) (fun iR=>(gd (bq aG.1.1) (gd (bq (ae IntKind.i64 aG.1.1 1)) (gd (bq (zN (len kX))) (gd (bw (nN aG.1.1) (nN (ae IntKind.i64 aG.1.1 1))) (gd (bw (nN (ae IntKind.i64 aG.1.1 1)) (nN (zN (len kX)))) (gd (bw (nN (zN (len kX))) (len iR)) (br (aj aG.1.1 (ae IntKind.i64 aG.1.1 1)) (some (((nth (0,0) jr (nN aG.1.1)).1,(true,())),((ah (0,(0,none)) d0 a0 (fun ql=>(ql.1,(ql.2.1,(some df))))),((aZ (aZ d1 b0 (some (ah (0,0) fl (nN aG.1.1) (fun ql=>((ae IntKind.i64 (nth (0,0) cR (nN aG.1.1)).1 a1),ql.2))))) b0 (some (ah (0,0) eT (nN aG.1.1) (fun ql=>(ql.1,(aI IntKind.i64 (nth (0,0) dR (nN aG.1.1)).2 a1)))))),())))) (bd (aY (aZ (aZ d1 b0 (some (ah (0,0) fl (nN aG.1.1) (fun ql=>((ae IntKind.i64 (nth (0,0) cR (nN aG.1.1)).1 a1),ql.2))))) b0 (some (ah (0,0) eT (nN aG.1.1) (fun ql=>(ql.1,(aI IntKind.i64 (nth (0,0) dR (nN aG.1.1)).2 a1)))))) df) (fun eu=>(bd (aY (aZ (aZ d1 b0 (some (ah (0,0) fl (nN aG.1.1) (fun HH=>((ae IntKind.i64 (nth (0,0) cR (nN aG.1.1)).1 a1),HH.2))))) b0 (some (ah (0,0) eT (nN aG.1.1) (fun HH=>(HH.1,(aI IntKind.i64 (nth (0,0) dR (nN aG.1.1)).2 a1)))))) df) (fun iQ=>(gd (bq aG.1.1) (gd (bw 0 (nN aG.1.1)) (gd (bw (nN aG.1.1) (len iQ)) (bd (aY (aZ (aZ d1 b0 (some (ah (0,0) fl (nN aG.1.1) (fun o_=>((ae IntKind.i64 (nth (0,0) cR (nN aG.1.1)).1 a1),o_.2))))) b0 (some (ah (0,0) eT (nN aG.1.1) (fun o_=>(o_.1,(aI IntKind.i64 (nth (0,0) dR (nN aG.1.1)).2 a1)))))) df) (fun d_=>(gd (bq (ae IntKind.i64 aG.1.1 1)) (gd (bw (nN (ae IntKind.i64 aG.1.1 1)) (len d_)) (gd (bw (len d_) (len d_)) (bd (aY (aZ (aZ d1 b0 (some (ah (0,0) fl (nN aG.1.1) (fun jS=>((ae IntKind.i64 (nth (0,0) cR (nN aG.1.1)).1 a1),jS.2))))) b0 (some (ah (0,0) eT (nN aG.1.1) (fun jS=>(jS.1,(aI IntKind.i64 (nth (0,0) dR (nN aG.1.1)).2 a1)))))) df) (fun du=>(bd (aY (aZ (aZ d1 b0 (some (ah (0,0) fl (nN aG.1.1) (fun fw=>((ae IntKind.i64 (nth (0,0) cR (nN aG.1.1)).1 a1),fw.2))))) b0 (some (ah (0,0) eT (nN aG.1.1) (fun fw=>(fw.1,(aI IntKind.i64 (nth (0,0) dR (nN aG.1.1)).2 a1)))))) df) (fun kO=>(gd (bw (aL (ay (nN aG.1.1) 0) (len (tk (ay (len d_) (nN (ae IntKind.i64 aG.1.1 1))) (dr (nN (ae IntKind.i64 aG.1.1 1)) du)))) (len kO)) (bd (aY (aZ (aZ (aZ d1 b0 (some (ah (0,0) fl (nN aG.1.1) (fun cy=>((ae IntKind.i64 (nth (0,0) cR (nN aG.1.1)).1 a1),cy.2))))) b0 (some (ah (0,0) eT (nN aG.1.1) (fun cy=>(cy.1,(aI IntKind.i64 (nth (0,0) dR (nN aG.1.1)).2 a1)))))) df (some (cat (tk (ay (nN aG.1.1) 0) kO) (cat (tk (ay (len d_) (nN (ae IntKind.i64 aG.1.1 1))) (dr (nN (ae IntKind.i64 aG.1.1 1)) du)) (dr (aL (ay (nN aG.1.1) 0) (len (tk (ay (len d_) (nN (ae IntKind.i64 aG.1.1 1))) (dr (nN (ae IntKind.i64 aG.1.1 1)) du)))) kO))))) df) (fun ml=>(gd (bq (zN (aL (ay (nN aG.1.1) 0) (len (tk (ay (len d_) (nN (ae IntKind.i64 aG.1.1 1))) (dr (nN (ae IntKind.i64 aG.1.1 1)) du)))))) (gd (bq (zN (len eu))) (gd (bw (nN (zN (aL (ay (nN aG.1.1) 0) (len (tk (ay (len d_) (nN (ae IntKind.i64 aG.1.1 1))) (dr (nN (ae IntKind.i64 aG.1.1 1)) du)))))) (nN (zN (len eu)))) (gd (bw (aL 0 (nN (zN (len eu)))) (len ml)) (bd (aY (aZ (aZ (aZ d1 b0 (some (ah (0,0) fl (nN aG.1.1) (fun bT=>((ae IntKind.i64 (nth (0,0) cR (nN aG.1.1)).1 a1),bT.2))))) b0 (some (ah (0,0) eT (nN aG.1.1) (fun bT=>(bT.1,(aI IntKind.i64 (nth (0,0) dR (nN aG.1.1)).2 a1)))))) df (some (cat (tk (ay (nN aG.1.1) 0) kO) (cat (tk (ay (len d_) (nN (ae IntKind.i64 aG.1.1 1))) (dr (nN (ae IntKind.i64 aG.1.1 1)) du)) (dr (aL (ay (nN aG.1.1) 0) (len (tk (ay (len d_) (nN (ae IntKind.i64 aG.1.1 1))) (dr (nN (ae IntKind.i64 aG.1.1 1)) du)))) kO))))) df) (fun iP=>(gd (bx 0 (ay (nN (zN (len eu))) (nN (zN (aL (ay (nN aG.1.1) 0) (len (tk (ay (len d_) (nN (ae IntKind.i64 aG.1.1 1))) (dr (nN (ae IntKind.i64 aG.1.1 1)) du)))))))) (bd (aY (aZ (aZ (aZ (aZ d1 b0 (some (ah (0,0) fl (nN aG.1.1) (fun bI=>((ae IntKind.i64 (nth (0,0) cR (nN aG.1.1)).1 a1),bI.2))))) b0 (some (ah (0,0) eT (nN aG.1.1) (fun bI=>(bI.1,(aI IntKind.i64 (nth (0,0) dR (nN aG.1.1)).2 a1)))))) df (some (cat (tk (ay (nN aG.1.1) 0) kO) (cat (tk (ay (len d_) (nN (ae IntKind.i64 aG.1.1 1))) (dr (nN (ae IntKind.i64 aG.1.1 1)) du)) (dr (aL (ay (nN aG.1.1) 0) (len (tk (ay (len d_) (nN (ae IntKind.i64 aG.1.1 1))) (dr (nN (ae IntKind.i64 aG.1.1 1)) du)))) kO))))) df (some (cat (tk (aL 0 (nN (zN (aL (ay (nN aG.1.1) 0) (len (tk (ay (len d_) (nN (ae IntKind.i64 aG.1.1 1))) (dr (nN (ae IntKind.i64 aG.1.1 1)) du))))))) iP) (cat (rep (α:=(Int×Int)) (ay (nN (zN (len eu))) (nN (zN (aL (ay (nN aG.1.1) 0) (len (tk (ay (len d_) (nN (ae IntKind.i64 aG.1.1 1))) (dr (nN (ae IntKind.i64 aG.1.1 1)) du))))))) (0,0)) (dr (aL (aL 0 (nN (zN (aL (ay (nN aG.1.1) 0) (len (tk (ay (len d_) (nN (ae IntKind.i64 aG.1.1 1))) (dr (nN (ae IntKind.i64 aG.1.1 1)) du))))))) (ay (nN (zN (len eu))) (nN (zN (aL (ay (nN aG.1.1) 0) (len (tk (ay (len d_) (nN (ae IntKind.i64 aG.1.1 1))) (dr (nN (ae IntKind.i64 aG.1.1 1)) du)))))))) iP))))) df) (fun HZ=>(some (((nth (0,0) jr (nN aG.1.1)).1,(true,())),((ah (0,(0,none)) d0 a0 (fun bm=>(bm.1,(bm.2.1,(some (len (aZ (aZ (aZ (aZ d1 b0 (some (ah (0,0) fl (nN aG.1.1) (fun b7=>((ae IntKind.i64 (nth (0,0) cR (nN aG.1.1)).1 a1),b7.2))))) b0 (some (ah (0,0) eT (nN aG.1.1) (fun b7=>(b7.1,(aI IntKind.i64 (nth (0,0) dR (nN aG.1.1)).2 a1)))))) df (some (cat (tk (ay (nN aG.1.1) 0) kO) (cat (tk (ay (len d_) (nN (ae IntKind.i64 aG.1.1 1))) (dr (nN (ae IntKind.i64 aG.1.1 1)) du)) (dr (aL (ay (nN aG.1.1) 0) (len (tk (ay (len d_) (nN (ae IntKind.i64 aG.1.1 1))) (dr (nN (ae IntKind.i64 aG.1.1 1)) du)))) kO))))) df (some (cat (tk (aL 0 (nN (zN (aL (ay (nN aG.1.1) 0) (len (tk (ay (len d_) (nN (ae IntKind.i64 aG.1.1 1))) (dr (nN (ae IntKind.i64 aG.1.1 1)) du))))))) iP) (cat (rep (α:=(Int×Int)) (ay (nN (zN (len eu))) (nN (zN (aL (ay (nN aG.1.1) 0) (len (tk (ay (len d_) (nN (ae IntKind.i64 aG.1.1 1))) (dr (nN (ae IntKind.i64 aG.1.1 1)) du))))))) (0,0)) (dr (aL (aL 0 (nN (zN (aL (ay (nN aG.1.1) 0) (len (tk (ay (len d_) (nN (ae IntKind.i64 aG.1.1 1))) (dr (nN (ae IntKind.i64 aG.1.1 1)) du))))))) (ay (nN (zN (len eu))) (nN (zN (aL (ay (nN aG.1.1) 0) (len (tk (ay (len d_) (nN (ae IntKind.i64 aG.1.1 1))) (dr (nN (ae IntKind.i64 aG.1.1 1)) du)))))))) iP))))))))))),((cat (aZ (aZ (aZ (aZ (aZ d1 b0 (some (ah (0,0) fl (nN aG.1.1) (fun bm=>((ae IntKind.i64 (nth (0,0) cR (nN aG.1.1)).1 a1),bm.2))))) b0 (some (ah (0,0) eT (nN aG.1.1) (fun bm=>(bm.1,(aI IntKind.i64 (nth (0,0) dR (nN aG.1.1)).2 a1)))))) df (some (cat (tk (ay (nN aG.1.1) 0) kO) (cat (tk (ay (len d_) (nN (ae IntKind.i64 aG.1.1 1))) (dr (nN (ae IntKind.i64 aG.1.1 1)) du)) (dr (aL (ay (nN aG.1.1) 0) (len (tk (ay (len d_) (nN (ae IntKind.i64 aG.1.1 1))) (dr (nN (ae IntKind.i64 aG.1.1 1)) du)))) kO))))) df (some (cat (tk (aL 0 (nN (zN (aL (ay (nN aG.1.1) 0) (len (tk (ay (len d_) (nN (ae IntKind.i64 aG.1.1 1))) (dr (nN (ae IntKind.i64 aG.1.1 1)) du))))))) iP) (cat (rep (α:=(Int×Int)) (ay (nN (zN (len eu))) (nN (zN (aL (ay (nN aG.1.1) 0) (len (tk (ay (len d_) (nN (ae IntKind.i64 aG.1.1 1))) (dr (nN (ae IntKind.i64 aG.1.1 1)) du))))))) (0,0)) (dr (aL (aL 0 (nN (zN (aL (ay (nN aG.1.1) 0) (len (tk (ay (len d_) (nN (ae IntKind.i64 aG.1.1 1))) (dr (nN (ae IntKind.i64 aG.1.1 1)) du))))))) (ay (nN (zN (len eu))) (nN (zN (aL (ay (nN aG.1.1) 0) (len (tk (ay (len d_) (nN (ae IntKind.i64 aG.1.1 1))) (dr (nN (ae IntKind.i64 aG.1.1 1)) du)))))))) iP))))) df none) [(some (tk (aL (ay (nN aG.1.1) 0) (len (tk (ay (len d_) (nN (ae IntKind.i64 aG.1.1 1))) (dr (nN (ae IntKind.i64 aG.1.1 1)) du)))) HZ))]),()))))))))))))))))))))))))))))))))))))))))))))) (some (((nth (0,0) jr (nN aG.1.1)).1,(true,())),(d0,((aZ (aZ d1 b0 (some (ah (0,0) fl (nN aG.1.1) (fun kG=>((ae IntKind.i64 (nth (0,0) cR (nN aG.1.1)).1 a1),kG.2))))) b0 (some (ah (0,0) eT (nN aG.1.1) (fun kG=>(kG.1,(aI IntKind.i64 (nth (0,0) dR (nN aG.1.1)).2 a1)))))),()))))))))))))))))))))))))))))
def e.jJ (L:fX) (J:fY) (a0:U4) (a1:Nat) (a2:Nat) (a3:U1) (c0:T1) (k:(((Int×Unit)×(Unit×(Unit×((U5×Unit)×(T2×lu)))))→(Option ((U1×(Int×Unit))×(T2×lu))))) (s:((Int×Unit)×(Unit×(Unit×((U5×Unit)×(T2×lu)))))):(Option ((U1×(Int×Unit))×(T2×lu))):=(br (ba s.1.1 a0.1) (bd (e.fb L J a0 a1 s.1.1 c0 s.2.2.2.2.1) (fun p0=>(br (ax (aj p0.1.1.1 0)) (k (((ae IntKind.i64 s.1.1 1),()),((),((),(((s.2.2.2.1.1.1,(s.2.2.2.1.1.2.1,(s.2.2.2.1.1.2.2.1,(s.2.2.2.1.1.2.2.2.1,(s.2.2.2.1.1.2.2.2.2.1,(s.2.2.2.1.1.2.2.2.2.2.1,(s.2.2.2.1.1.2.2.2.2.2.2.1,(s.2.2.2.1.1.2.2.2.2.2.2.2.1,(s.2.2.2.1.1.2.2.2.2.2.2.2.2.1,(s.2.2.2.1.1.2.2.2.2.2.2.2.2.2.1,(s.2.2.2.1.1.2.2.2.2.2.2.2.2.2.2.1,(s.2.2.2.1.1.2.2.2.2.2.2.2.2.2.2.2.1,(s.2.2.2.1.1.2.2.2.2.2.2.2.2.2.2.2.2.1,(s.2.2.2.1.1.2.2.2.2.2.2.2.2.2.2.2.2.2.1,(s.2.2.2.1.1.2.2.2.2.2.2.2.2.2.2.2.2.2.2.1,(s.2.2.2.1.1.2.2.2.2.2.2.2.2.2.2.2.2.2.2.2.1,(s.2.2.2.1.1.2.2.2.2.2.2.2.2.2.2.2.2.2.2.2.2.1,(s.2.2.2.1.1.2.2.2.2.2.2.2.2.2.2.2.2.2.2.2.2.2.1,(s.2.2.2.1.1.2.2.2.2.2.2.2.2.2.2.2.2.2.2.2.2.2.2.1,(s.2.2.2.1.1.2.2.2.2.2.2.2.2.2.2.2.2.2.2.2.2.2.2.2.1,(s.2.2.2.1.1.2.2.2.2.2.2.2.2.2.2.2.2.2.2.2.2.2.2.2.2.1,(s.2.2.2.1.1.2.2.2.2.2.2.2.2.2.2.2.2.2.2.2.2.2.2.2.2.2.1,(s.2.2.2.1.1.2.2.2.2.2.2.2.2.2.2.2.2.2.2.2.2.2.2.2.2.2.2.1,(s.2.2.2.1.1.2.2.2.2.2.2.2.2.2.2.2.2.2.2.2.2.2.2.2.2.2.2.2.1,(s.2.2.2.1.1.2.2.2.2.2.2.2.2.2.2.2.2.2.2.2.2.2.2.2.2.2.2.2.2.1,(s.2.2.2.1.1.2.2.2.2.2.2.2.2.2.2.2.2.2.2.2.2.2.2.2.2.2.2.2.2.2.1,())))))))))))))))))))))))))),()),(s.2.2.2.2.1,(s.2.2.2.2.2.1,(s.2.2.2.2.2.2.1,())))))))) (bd (e.mq L J a3.1.2.2.2.2.1) (fun p1=>(bd (e.dW L J a2 p1.1.1 s.2.2.2.2.2.1 s.2.2.2.2.2.2.1) (fun p2=>(br (ax p2.1.2.1) (bd (e.bA L J a3 14 0) (fun p3=>(some ((p3.1.1,(0,())),(s.2.2.2.2.1,(p2.2.1,(p2.2.2.1,()))))))) (bd (e.bz L J ((some a1),(a0,s.1.1)) (1,p0.1.1.2) c0 s.2.2.2.2.1) (fun p4=>(bd (e.aD L J ((some a1),(a0,s.1.1)) 1 (cN IntKind.u64 p2.1.1) c0 p4.2.1) (fun p5=>(bd (e.aD L J ((some a1),(a0,s.1.1)) 2 (cN IntKind.u64 p1.1.1) c0 p5.2.1) (fun p6=>(bd (e.aD L J ((some a1),(a0,s.1.1)) 3 0 c0 p6.2.1) (fun p7=>(bd (e.aD L J ((some a1),(a0,s.1.1)) 4 0 c0 p7.2.1) (fun p8=>(bd (e.bA L J a3 0 s.1.1) (fun p9=>(some ((p9.1.1,(0,())),(p8.2.1,(p2.2.1,(p2.2.2.1,()))))))))))))))))))))))))) (bd (e.bA L J a3 13 0) (fun fm=>(some ((fm.1.1,(0,())),(s.2.2.2.2.1,(s.2.2.2.2.2.1,(s.2.2.2.2.2.2.1,()))))))))
def e.ku (L:fX) (J:fY) (a0:U4) (a1:Nat) (a2:Nat) (a3:U1) (c0:T1) (d0:T2) (d1:T3) (d2:T4):(Option ((U1×(Int×Unit))×(T2×lu))):=(J _ _ (fun (k0:U0→_)=>(br a3.2.2.2.2.2.2.2.2.2.2.2.2.2.2.2.1 (some ((((0,(0,(0,(0,(0,(0,0)))))),(0,(0,(0,(0,([],(0,(0,(0,(0,([],(0,([],(0,(false,(false,(false,(0,(0,[]))))))))))))))))))),(1,())),(d0,(d1,(d2,()))))) (br (ax (aj a3.2.1 1)) (some ((((0,(0,(0,(0,(0,(0,0)))))),(0,(0,(0,(0,([],(0,(0,(0,(0,([],(0,([],(0,(false,(false,(false,(0,(0,[]))))))))))))))))))),(1,())),(d0,(d1,(d2,()))))) (k0 ((),((),((),(((0,(0,(0,(0,(0,(0,(0,(0,(0,(0,(0,([],(0,(0,(0,(0,([],(0,([],(0,(false,(false,(false,(0,(0,([],())))))))))))))))))))))))))),()),())))))))) (fun (s1:U0)=>(br (aj a3.1.1 3) (bd (g.jI ((some a1),(a0,a3.1.2.2.2.2.1)) a2 c0 d0 d1 d2) (fun p2=>(bd (e.bA L J a3 p2.1.1 0) (fun p3=>(some ((p3.1.1,(0,())),(p2.2.1,(p2.2.2.1,(p2.2.2.2.1,()))))))))) (L _ _ (e.jJ L J a0 a1 a2 a3 c0) ((0,()),((),((),(((s1.2.2.2.1.1.1,(s1.2.2.2.1.1.2.1,(s1.2.2.2.1.1.2.2.1,(s1.2.2.2.1.1.2.2.2.1,(s1.2.2.2.1.1.2.2.2.2.1,(s1.2.2.2.1.1.2.2.2.2.2.1,(s1.2.2.2.1.1.2.2.2.2.2.2.1,(s1.2.2.2.1.1.2.2.2.2.2.2.2.1,(s1.2.2.2.1.1.2.2.2.2.2.2.2.2.1,(s1.2.2.2.1.1.2.2.2.2.2.2.2.2.2.1,(s1.2.2.2.1.1.2.2.2.2.2.2.2.2.2.2.1,(s1.2.2.2.1.1.2.2.2.2.2.2.2.2.2.2.2.1,(s1.2.2.2.1.1.2.2.2.2.2.2.2.2.2.2.2.2.1,(s1.2.2.2.1.1.2.2.2.2.2.2.2.2.2.2.2.2.2.1,(s1.2.2.2.1.1.2.2.2.2.2.2.2.2.2.2.2.2.2.2.1,(s1.2.2.2.1.1.2.2.2.2.2.2.2.2.2.2.2.2.2.2.2.1,(s1.2.2.2.1.1.2.2.2.2.2.2.2.2.2.2.2.2.2.2.2.2.1,(s1.2.2.2.1.1.2.2.2.2.2.2.2.2.2.2.2.2.2.2.2.2.2.1,(s1.2.2.2.1.1.2.2.2.2.2.2.2.2.2.2.2.2.2.2.2.2.2.2.1,(s1.2.2.2.1.1.2.2.2.2.2.2.2.2.2.2.2.2.2.2.2.2.2.2.2.1,(s1.2.2.2.1.1.2.2.2.2.2.2.2.2.2.2.2.2.2.2.2.2.2.2.2.2.1,(s1.2.2.2.1.1.2.2.2.2.2.2.2.2.2.2.2.2.2.2.2.2.2.2.2.2.2.1,(s1.2.2.2.1.1.2.2.2.2.2.2.2.2.2.2.2.2.2.2.2.2.2.2.2.2.2.2.1,(s1.2.2.2.1.1.2.2.2.2.2.2.2.2.2.2.2.2.2.2.2.2.2.2.2.2.2.2.2.1,(s1.2.2.2.1.1.2.2.2.2.2.2.2.2.2.2.2.2.2.2.2.2.2.2.2.2.2.2.2.2.1,(s1.2.2.2.1.1.2.2.2.2.2.2.2.2.2.2.2.2.2.2.2.2.2.2.2.2.2.2.2.2.2.1,())))))))))))))))))))))))))),()),(d0,(d1,(d2,())))))))))))
def e.iE (L:fX) (J:fY) (a0:U4) (a1:Int):(Option ((U4×(Int×Unit))×Unit)):=(J _ _ (fun (k0:(Unit×(Unit×(Unit×(((Int×(Int×ju))×((Int×(Int×ju))×Unit))×Unit))))→_)=>(J _ _ (fun (k1:gY→_)=>(bd (e.eh L J a0) (fun p2=>(br (ax p2.1.1) (k1 ((true,()),((),((),((),()))))) (bd (e.ab L J a1 0 7) (fun p3=>(k1 (((ax p3.1.1),()),((),((),((),()))))))))))) (fun (s4:gY)=>(br s4.1.1 (some (((0,(0,(0,0))),(1,())),())) (br (aj a0.1 0) (some (((0,(0,(0,0))),(11,())),())) (br (aj a0.1 3) (some (((0,(0,(0,0))),(10,())),())) (br (aj a0.1 1) (k0 ((),((),((),(((2,(a0.2.1,(a1,(a0.2.2.2,())))),((0,(0,(0,(0,())))),())),()))))) (br (ax (aj a0.2.2.1 a1)) (some (((0,(0,(0,0))),(15,())),())) (br (aj a0.2.1 7) (some (((0,(0,(0,0))),(16,())),())) (k0 ((),((),((),(((a0.1,(a0.2.1,(a0.2.2.1,(a0.2.2.2,())))),((0,(0,(0,(0,())))),())),())))))))))))))) (fun (s5:(Unit×(Unit×(Unit×(((Int×(Int×ju))×((Int×(Int×ju))×Unit))×Unit)))))=>(some (((s5.2.2.2.1.1.1,((ae IntKind.i64 s5.2.2.2.1.1.2.1 1),(s5.2.2.2.1.1.2.2.1,s5.2.2.2.1.1.2.2.2.1))),(0,())),()))))
def e.da (L:fX) (J:fY) (a0:Nat) (a1:Int) (a2:Int) (a3:Int) (c0:T1) (d0:T2):(Option ((Bool×(Int×Unit))×(T2×Unit))):=(bd (e.aN L J a0 a1 c0 d0) (fun p0=>(br (ax (aj p0.1.2.1 0)) (some ((false,(p0.1.2.1,())),(d0,()))) (br (ax (aj p0.1.1 a2)) (some ((false,(p0.1.2.1,())),(d0,()))) (bd (e.aX L J a0 a1 a3 c0 d0) (fun p1=>(some ((true,(p1.1.1,())),(p1.2.1,())))))))))
def e.kA (L:fX) (J:fY) (a0:U4) (a1:Nat) (a2:U1) (c0:T1) (d0:T2):(Option ((U1×(Int×Unit))×(T2×Unit))):=(bd (e.ck L J a0 0 a2.1.2.2.2.2.1) (fun p0=>(br (aj a2.2.1 13) (J _ _ (fun (k1:U0→_)=>(br a2.2.2.2.2.2.2.2.2.2.2.2.2.2.2.2.1 (some ((((0,(0,(0,(0,(0,(0,0)))))),(0,(0,(0,(0,([],(0,(0,(0,(0,([],(0,([],(0,(false,(false,(false,(0,(0,[]))))))))))))))))))),(1,())),(d0,()))) (k1 ((),((),((),(((0,(0,(0,(0,(0,(0,(0,(0,(0,(0,(0,([],(0,(0,(0,(0,([],(0,([],(0,(false,(false,(false,(0,(0,([],())))))))))))))))))))))))))),()),()))))))) (fun (s2:U0)=>(bd (e.aN L J a1 p0.1.1 c0 d0) (fun p3=>(bd (e.c_ L J p3.1.1) (fun p4=>(bd (e.iE L J p4.1.1 a2.2.2.1) (fun p5=>(br (aj p5.1.2.1 10) (some ((a2,(0,())),(d0,()))) (br (aj p5.1.2.1 0) (bd (e.fG L J p5.1.1) (fun p6=>(some (((a2.1,(14,(a2.2.2.1,(a2.2.2.2.1,(a2.2.2.2.2.1,(a2.2.2.2.2.2.1,(p3.1.1,(p6.1.1,a2.2.2.2.2.2.2.2.2)))))))),(0,())),(d0,()))))) (bd (e.bA L J a2 p5.1.2.1 0) (fun p7=>(some ((p7.1.1,(0,())),(d0,()))))))))))))))) (br (aj a2.2.1 14) (J _ _ (fun (k8:U0→_)=>(br a2.2.2.2.2.2.2.2.2.2.2.2.2.2.2.2.1 (some ((((0,(0,(0,(0,(0,(0,0)))))),(0,(0,(0,(0,([],(0,(0,(0,(0,([],(0,([],(0,(false,(false,(false,(0,(0,[]))))))))))))))))))),(1,())),(d0,()))) (k8 ((),((),((),(((0,(0,(0,(0,(0,(0,(0,(0,(0,(0,(0,([],(0,(0,(0,(0,([],(0,([],(0,(false,(false,(false,(0,(0,([],())))))))))))))))))))))))))),()),()))))))) (fun (s9:U0)=>(bd (e.da L J a1 p0.1.1 a2.2.2.2.2.2.2.1 a2.2.2.2.2.2.2.2.1 c0 d0) (fun fm=>(br fm.1.1 (bd (e.bA L J a2 0 0) (fun jE=>(some ((jE.1.1,(0,())),(fm.2.1,()))))) (some (((a2.1,(13,(a2.2.2.1,(a2.2.2.2.1,(a2.2.2.2.2.1,(a2.2.2.2.2.2.1,(0,(0,a2.2.2.2.2.2.2.2.2)))))))),(0,())),(fm.2.1,())))))))) (J _ _ (fun (Tm:U0→_)=>(br a2.2.2.2.2.2.2.2.2.2.2.2.2.2.2.2.1 (some ((((0,(0,(0,(0,(0,(0,0)))))),(0,(0,(0,(0,([],(0,(0,(0,(0,([],(0,([],(0,(false,(false,(false,(0,(0,[]))))))))))))))))))),(1,())),(d0,()))) (some ((((0,(0,(0,(0,(0,(0,0)))))),(0,(0,(0,(0,([],(0,(0,(0,(0,([],(0,([],(0,(false,(false,(false,(0,(0,[]))))))))))))))))))),(1,())),(d0,()))))) (fun (s13:U0)=>none))))))
def e.dw (L:fX) (J:fY) (a0:Nat) (a1:U1) (c0:T0) (c1:T5) (c2:T6) (c3:T7) (c4:T2) (d0:T1) (d1:T2) (d2:T3) (d3:T4) (d4:T9):(Option ((U1×Unit)×(T1×(T2×(T3×(T4×(T9×Unit))))))):=(br (aj a1.2.1 0) (bd (e.bA L J a1 a1.2.2.2.2.2.2.2.2.2.2.2.2.2.2.2.2.2.1 0) (fun p0=>(some ((p0.1.1,()),(d0,(d1,(d2,(d3,(d4,()))))))))) (br (aj a1.2.1 1) (opt (nth bn c0 a0).2.2.1 (opt (nth bn c0 a0).2.2.2.1 none (fun p1=>none)) (fun p2=>(opt (nth bn c0 a0).2.2.2.1 none (fun p3=>(bd (e.ku L J (nth bn c0 a0).1 p2 p3 a1 d0 d1 d2 d3) (fun p4=>(some ((p4.1.1,()),(d0,(p4.2.1,(p4.2.2.1,(p4.2.2.2.1,(d4,()))))))))))))) (br (aj a1.1.1 7) (opt (nth bn c0 a0).2.2.1 none (fun p5=>(bd (g.nF (nth bn c0 a0).1 p5 a1 d0 d1) (fun p6=>(some ((p6.1.1,()),(d0,(p6.2.1,(d2,(d3,(d4,()))))))))))) (br (aj a1.1.1 4) (opt (nth bn c0 a0).2.2.1 none (fun p7=>(bd (e.kA L J (nth bn c0 a0).1 p7 a1 d0 d1) (fun p8=>(some ((p8.1.1,()),(d0,(p8.2.1,(d2,(d3,(d4,()))))))))))) (br (aj a1.1.1 5) (opt (nth bn c0 a0).2.1 (opt (nth bn c0 a0).2.2.1 none (fun p9=>(bd (g.iU (nth bn c0 a0).1 none p9 a1 d0 d1 d4) (fun fm=>(some ((fm.1.1,()),(fm.2.1,(fm.2.2.1,(d2,(d3,(fm.2.2.2.1,()))))))))))) (fun jE=>(opt (nth bn c0 a0).2.2.1 none (fun b0=>(bd (g.iU (nth bn c0 a0).1 (some jE) b0 a1 d0 d1 d4) (fun b_=>(some ((b_.1.1,()),(b_.2.1,(b_.2.2.1,(d2,(d3,(b_.2.2.2.1,()))))))))))))) (opt (nth bn c0 a0).2.2.1 none (fun jr=>(bd (g.mf (nth bn c0 a0).1 jr a1 d0 d1) (fun cR=>(some ((cR.1.1,()),(d0,(cR.2.1,(d2,(d3,(d4,()))))))))))))))))
def e.cT (L:fX) (J:fY) (a0:Nat) (d0:T6) (d1:T2):(Option (Unit×(T6×(T2×Unit)))):=(br (ax (aj (nth aE (ah aE d0 a0 (fun r3=>(r3.1,(r3.2.1,(r3.2.2.1,(r3.2.2.2.1,(false,r3.2.2.2.2.2))))))) a0).2.2.2.1.2.2.2.2.2.2.2.2.2.2.2.2.2.2.2.2.2.1 0)) (some ((),((ah aE d0 a0 (fun r3=>(r3.1,(r3.2.1,(r3.2.2.1,(r3.2.2.2.1,(false,r3.2.2.2.2.2))))))),(d1,())))) (br (aj (nth aE (ah aE d0 a0 (fun r3=>(r3.1,(r3.2.1,(r3.2.2.1,(r3.2.2.2.1,(false,r3.2.2.2.2.2))))))) a0).2.2.2.1.1.1 1) (opt (nth aE (ah aE d0 a0 (fun r3=>(r3.1,(r3.2.1,(r3.2.2.1,(r3.2.2.2.1,(false,r3.2.2.2.2.2))))))) a0).2.1 none (fun p0=>(bd (aY d1 p0) (fun p1=>(gd (bq (nth aE (ah aE d0 a0 (fun r5=>(r5.1,(r5.2.1,(r5.2.2.1,(r5.2.2.2.1,(false,r5.2.2.2.2.2))))))) a0).2.2.2.1.1.2.1) (gd (bx (nN (nth aE (ah aE d0 a0 (fun r5=>(r5.1,(r5.2.1,(r5.2.2.1,(r5.2.2.2.1,(false,r5.2.2.2.2.2))))))) a0).2.2.2.1.1.2.1) (len p1)) (bd (aY d1 p0) (fun p2=>(some ((),((ah aE d0 a0 (fun r6=>(r6.1,(r6.2.1,(r6.2.2.1,(r6.2.2.2.1,(false,r6.2.2.2.2.2))))))),((aZ d1 p0 (some (aZ p2 (nN (nth aE (ah aE d0 a0 (fun r6=>(r6.1,(r6.2.1,(r6.2.2.1,(r6.2.2.2.1,(false,r6.2.2.2.2.2))))))) a0).2.2.2.1.1.2.1) (cN IntKind.u64 (nth aE (ah aE d0 a0 (fun r6=>(r6.1,(r6.2.1,(r6.2.2.1,(r6.2.2.2.1,(false,r6.2.2.2.2.2))))))) a0).2.2.2.1.1.2.2.2.2.1)))),())))))))))))) (J _ _ (fun (k3:gY→_)=>(br (aj (nth aE (ah aE d0 a0 (fun r4=>(r4.1,(r4.2.1,(r4.2.2.1,(r4.2.2.2.1,(false,r4.2.2.2.2.2))))))) a0).2.2.2.1.1.1 7) (k3 ((true,()),((),((),((),()))))) (br (aj (nth aE (ah aE d0 a0 (fun r4=>(r4.1,(r4.2.1,(r4.2.2.1,(r4.2.2.2.1,(false,r4.2.2.2.2.2))))))) a0).2.2.2.1.1.1 8) (k3 ((true,()),((),((),((),()))))) (k3 (((aj (nth aE (ah aE d0 a0 (fun r4=>(r4.1,(r4.2.1,(r4.2.2.1,(r4.2.2.2.1,(false,r4.2.2.2.2.2))))))) a0).2.2.2.1.1.1 10),()),((),((),((),())))))))) (fun (s4:gY)=>(br s4.1.1 (opt (nth aE (ah aE d0 a0 (fun r4=>(r4.1,(r4.2.1,(r4.2.2.1,(r4.2.2.2.1,(false,r4.2.2.2.2.2))))))) a0).2.1 none (fun p5=>(bd (aY d1 p5) (fun p6=>(gd (bq (nth aE (ah aE d0 a0 (fun r6=>(r6.1,(r6.2.1,(r6.2.2.1,(r6.2.2.2.1,(false,r6.2.2.2.2.2))))))) a0).2.2.2.1.1.2.1) (gd (bx (nN (nth aE (ah aE d0 a0 (fun r6=>(r6.1,(r6.2.1,(r6.2.2.1,(r6.2.2.2.1,(false,r6.2.2.2.2.2))))))) a0).2.2.2.1.1.2.1) (len p6)) (bd (aY d1 p5) (fun p7=>(some ((),((ah aE d0 a0 (fun r7=>(r7.1,(r7.2.1,(r7.2.2.1,(r7.2.2.2.1,(false,r7.2.2.2.2.2))))))),((aZ d1 p5 (some (aZ p7 (nN (nth aE (ah aE d0 a0 (fun r7=>(r7.1,(r7.2.1,(r7.2.2.1,(r7.2.2.2.1,(false,r7.2.2.2.2.2))))))) a0).2.2.2.1.1.2.1) (cN IntKind.u64 (nth aE (ah aE d0 a0 (fun r7=>(r7.1,(r7.2.1,(r7.2.2.1,(r7.2.2.2.1,(false,r7.2.2.2.2.2))))))) a0).2.2.2.1.2.2.2.2.2.2.2.2.2.2.2.2.2.2.2.2.2.2.1)))),())))))))))))) (br (aj (nth aE (ah aE d0 a0 (fun r4=>(r4.1,(r4.2.1,(r4.2.2.1,(r4.2.2.2.1,(false,r4.2.2.2.2.2))))))) a0).2.2.2.1.1.1 4) (bd (e.bS L J (nth aE (ah aE d0 a0 (fun r4=>(r4.1,(r4.2.1,(r4.2.2.1,(r4.2.2.2.1,(false,r4.2.2.2.2.2))))))) a0).2.2.1 ((nth aE (ah aE d0 a0 (fun r4=>(r4.1,(r4.2.1,(r4.2.2.1,(r4.2.2.2.1,(false,r4.2.2.2.2.2))))))) a0).2.2.2.1.1.2.2.2.2.1,true)) (fun p8=>(some ((),((ah aE (ah aE d0 a0 (fun r6=>(r6.1,(r6.2.1,(r6.2.2.1,(r6.2.2.2.1,(false,r6.2.2.2.2.2))))))) a0 (fun r5=>(r5.1,(r5.2.1,(p8.1.1,r5.2.2.2))))),(d1,())))))) (br (aj (nth aE (ah aE d0 a0 (fun r4=>(r4.1,(r4.2.1,(r4.2.2.1,(r4.2.2.2.1,(false,r4.2.2.2.2.2))))))) a0).2.2.2.1.1.1 6) (bd (e.bS L J (nth aE (ah aE d0 a0 (fun r4=>(r4.1,(r4.2.1,(r4.2.2.1,(r4.2.2.2.1,(false,r4.2.2.2.2.2))))))) a0).2.2.1 ((nth aE (ah aE d0 a0 (fun r4=>(r4.1,(r4.2.1,(r4.2.2.1,(r4.2.2.2.1,(false,r4.2.2.2.2.2))))))) a0).2.2.2.1.1.2.2.2.2.1,false)) (fun p9=>(some ((),((ah aE (ah aE d0 a0 (fun r6=>(r6.1,(r6.2.1,(r6.2.2.1,(r6.2.2.2.1,(false,r6.2.2.2.2.2))))))) a0 (fun r5=>(r5.1,(r5.2.1,(p9.1.1,r5.2.2.2))))),(d1,())))))) (br (aj (nth aE (ah aE d0 a0 (fun r4=>(r4.1,(r4.2.1,(r4.2.2.1,(r4.2.2.2.1,(false,r4.2.2.2.2.2))))))) a0).2.2.2.1.1.1 5) (bd (e.iF L J (nth aE (ah aE d0 a0 (fun r4=>(r4.1,(r4.2.1,(r4.2.2.1,(r4.2.2.2.1,(false,r4.2.2.2.2.2))))))) a0).2.2.1) (fun fm=>(some ((),((ah aE (ah aE d0 a0 (fun r6=>(r6.1,(r6.2.1,(r6.2.2.1,(r6.2.2.2.1,(false,r6.2.2.2.2.2))))))) a0 (fun r5=>(r5.1,(r5.2.1,(fm.1.1,r5.2.2.2))))),(d1,())))))) (some ((),((ah aE d0 a0 (fun r4=>(r4.1,(r4.2.1,(r4.2.2.1,(r4.2.2.2.1,(false,r4.2.2.2.2.2))))))),(d1,()))))))))))))
def e.cj (L:fX) (J:fY) (a0:Nat) (a1:Int) (c0:T5) (d0:T0) (d1:T1) (d2:T2) (d3:T3) (d4:T4) (d5:T6) (d6:T7) (d7:T2) (d8:T9):(Option ((Bool×(Int×Unit))×(T0×(T1×(T2×(T3×(T4×(T6×(T7×(T2×(T9×Unit))))))))))):=(opt (nth bn d0 a0).2.2.2.2.1 (bd (e.ab L J a1 0 (-1)) (fun p0=>(br (ax p0.1.1) (some ((false,(2,())),(d0,(d1,(d2,(d3,(d4,(d5,(d6,(d7,(d8,()))))))))))) (opt (nth bn d0 a0).2.2.2.2.1 none (fun p1=>(bd (aY c0 p1) (fun p2=>(gd (bq a1) (gd (bx (nN a1) (len p2)) (bd (aY c0 p1) (fun p3=>(opt (nth none p3 (nN a1)) none (fun p4=>(bd (e.bf L J p4 d5 d7) (fun p5=>(br p5.1.1 (some ((false,(23,())),(d0,(d1,(d2,(d3,(d4,(d5,(d6,(d7,(d8,()))))))))))) (J _ _ (fun (k6:(Unit×(Unit×(Unit×(Unit×(T0×(T6×(T7×Unit)))))))→_)=>(br (ax (nth aE d5 p4).2.2.2.2.1) (gd (bx 0 (len (nth aE d5 p4).1)) (gd (bw 1 (len (nth aE d5 p4).1)) (gd (bw (len (nth aE d5 p4).1) (len (nth aE d5 p4).1)) (opt (nth aE (ah aE d5 p4 (fun o_=>((tk (ay (len o_.1) 1) (dr 1 o_.1)),o_.2))) p4).2.1 (bd (e.gh L J (nth bn d0 a0).1 none (nth aE (ah aE d5 p4 (fun o_=>((tk (ay (len o_.1) 1) (dr 1 o_.1)),o_.2))) p4).2.2.1 (nth (0,(0,(0,(0,(0,(0,0)))))) (nth aE d5 p4).1 0) d7) (fun p7=>(opt (nth bn d0 a0).2.2.2.2.2.1 (opt (nth bn d0 a0).2.2.2.2.2.1 (gd (bw (len (α:=U3) [(a1,((nth (0,(0,(0,(0,(0,(0,0)))))) (nth aE d5 p4).1 0),((nth bn d0 a0).2.2.2.2.2.2,((-1),((-1),(0,(0,[])))))))]) 16777216) (k6 ((),((),((),((),((ah bn d0 a0 (fun jS=>(jS.1,(jS.2.1,(jS.2.2.1,(jS.2.2.2.1,(jS.2.2.2.2.1,((some (len d6)),jS.2.2.2.2.2.2)))))))),((ah aE (ah aE (ah aE (ah aE d5 p4 (fun bT=>((tk (ay (len bT.1) 1) (dr 1 bT.1)),bT.2))) p4 (fun cy=>(cy.1,(cy.2.1,(cy.2.2.1,(p7.1.1,cy.2.2.2.2)))))) p4 (fun fw=>(fw.1,(fw.2.1,(fw.2.2.1,(fw.2.2.2.1,(true,fw.2.2.2.2.2))))))) p4 (fun jS=>(jS.1,(jS.2.1,(jS.2.2.1,(jS.2.2.2.1,(jS.2.2.2.2.1,0))))))),((cat d6 [(some [(a1,((nth (0,(0,(0,(0,(0,(0,0)))))) (nth aE d5 p4).1 0),((nth bn d0 a0).2.2.2.2.2.2,((-1),((-1),(0,(0,[])))))))])]),()))))))))) (fun p8=>(bd (aY d6 p8) (fun p9=>(gd (bw (aL (len p9) (len (α:=U3) [(a1,((nth (0,(0,(0,(0,(0,(0,0)))))) (nth aE d5 p4).1 0),((nth bn d0 a0).2.2.2.2.2.2,((-1),((-1),(0,(0,[])))))))])) 16777216) (gd (bx p8 (len d6)) (k6 ((),((),((),((),((ah bn d0 a0 (fun cy=>(cy.1,(cy.2.1,(cy.2.2.1,(cy.2.2.2.1,(cy.2.2.2.2.1,((some (len (aZ d6 p8 none))),cy.2.2.2.2.2.2)))))))),((ah aE (ah aE (ah aE (ah aE d5 p4 (fun bm=>((tk (ay (len bm.1) 1) (dr 1 bm.1)),bm.2))) p4 (fun bI=>(bI.1,(bI.2.1,(bI.2.2.1,(p7.1.1,bI.2.2.2.2)))))) p4 (fun bT=>(bT.1,(bT.2.1,(bT.2.2.1,(bT.2.2.2.1,(true,bT.2.2.2.2.2))))))) p4 (fun cy=>(cy.1,(cy.2.1,(cy.2.2.1,(cy.2.2.2.1,(cy.2.2.2.2.1,0))))))),((cat (aZ d6 p8 none) [(some (cat p9 [(a1,((nth (0,(0,(0,(0,(0,(0,0)))))) (nth aE d5 p4).1 0),((nth bn d0 a0).2.2.2.2.2.2,((-1),((-1),(0,(0,[])))))))]))]),())))))))))))))) (fun fm=>(bd (aY d6 fm) (fun jE=>(opt (nth bn d0 a0).2.2.2.2.2.1 (gd (bw (len (α:=U3) [(a1,((nth (0,(0,(0,(0,(0,(0,0)))))) (nth aE d5 p4).1 0),((nth bn d0 a0).2.2.2.2.2.2,((-1),((-1),(0,(0,[])))))))]) 16777216) (k6 ((),((),((),((),((ah bn d0 a0 (fun cy=>(cy.1,(cy.2.1,(cy.2.2.1,(cy.2.2.2.1,(cy.2.2.2.2.1,((some (len d6)),cy.2.2.2.2.2.2)))))))),((ah aE (ah aE (ah aE (ah aE d5 p4 (fun bm=>((tk (ay (len bm.1) 1) (dr 1 bm.1)),bm.2))) p4 (fun bI=>(bI.1,(bI.2.1,(bI.2.2.1,(p7.1.1,bI.2.2.2.2)))))) p4 (fun bT=>(bT.1,(bT.2.1,(bT.2.2.1,(bT.2.2.2.1,(true,bT.2.2.2.2.2))))))) p4 (fun cy=>(cy.1,(cy.2.1,(cy.2.2.1,(cy.2.2.2.1,(cy.2.2.2.2.1,(zN (len jE))))))))),((cat d6 [(some [(a1,((nth (0,(0,(0,(0,(0,(0,0)))))) (nth aE d5 p4).1 0),((nth bn d0 a0).2.2.2.2.2.2,((-1),((-1),(0,(0,[])))))))])]),()))))))))) (fun b0=>(bd (aY d6 b0) (fun b_=>(gd (bw (aL (len b_) (len (α:=U3) [(a1,((nth (0,(0,(0,(0,(0,(0,0)))))) (nth aE d5 p4).1 0),((nth bn d0 a0).2.2.2.2.2.2,((-1),((-1),(0,(0,[])))))))])) 16777216) (gd (bx b0 (len d6)) (k6 ((),((),((),((),((ah bn d0 a0 (fun bI=>(bI.1,(bI.2.1,(bI.2.2.1,(bI.2.2.2.1,(bI.2.2.2.2.1,((some (len (aZ d6 b0 none))),bI.2.2.2.2.2.2)))))))),((ah aE (ah aE (ah aE (ah aE d5 p4 (fun bQ=>((tk (ay (len bQ.1) 1) (dr 1 bQ.1)),bQ.2))) p4 (fun b7=>(b7.1,(b7.2.1,(b7.2.2.1,(p7.1.1,b7.2.2.2.2)))))) p4 (fun bm=>(bm.1,(bm.2.1,(bm.2.2.1,(bm.2.2.2.1,(true,bm.2.2.2.2.2))))))) p4 (fun bI=>(bI.1,(bI.2.1,(bI.2.2.1,(bI.2.2.2.1,(bI.2.2.2.2.1,(zN (len jE))))))))),((cat (aZ d6 b0 none) [(some (cat b_ [(a1,((nth (0,(0,(0,(0,(0,(0,0)))))) (nth aE d5 p4).1 0),((nth bn d0 a0).2.2.2.2.2.2,((-1),((-1),(0,(0,[])))))))]))]),())))))))))))))))))))) (fun jr=>(bd (e.gh L J (nth bn d0 a0).1 (some jr) (nth aE (ah aE d5 p4 (fun jS=>((tk (ay (len jS.1) 1) (dr 1 jS.1)),jS.2))) p4).2.2.1 (nth (0,(0,(0,(0,(0,(0,0)))))) (nth aE d5 p4).1 0) d7) (fun cR=>(opt (nth bn d0 a0).2.2.2.2.2.1 (opt (nth bn d0 a0).2.2.2.2.2.1 (gd (bw (len (α:=U3) [(a1,((nth (0,(0,(0,(0,(0,(0,0)))))) (nth aE d5 p4).1 0),((nth bn d0 a0).2.2.2.2.2.2,((-1),((-1),(0,(0,[])))))))]) 16777216) (k6 ((),((),((),((),((ah bn d0 a0 (fun fw=>(fw.1,(fw.2.1,(fw.2.2.1,(fw.2.2.2.1,(fw.2.2.2.2.1,((some (len d6)),fw.2.2.2.2.2.2)))))))),((ah aE (ah aE (ah aE (ah aE d5 p4 (fun bI=>((tk (ay (len bI.1) 1) (dr 1 bI.1)),bI.2))) p4 (fun bT=>(bT.1,(bT.2.1,(bT.2.2.1,(cR.1.1,bT.2.2.2.2)))))) p4 (fun cy=>(cy.1,(cy.2.1,(cy.2.2.1,(cy.2.2.2.1,(true,cy.2.2.2.2.2))))))) p4 (fun fw=>(fw.1,(fw.2.1,(fw.2.2.1,(fw.2.2.2.1,(fw.2.2.2.2.1,0))))))),((cat d6 [(some [(a1,((nth (0,(0,(0,(0,(0,(0,0)))))) (nth aE d5 p4).1 0),((nth bn d0 a0).2.2.2.2.2.2,((-1),((-1),(0,(0,[])))))))])]),()))))))))) (fun dR=>(bd (aY d6 dR) (fun fl=>(gd (bw (aL (len fl) (len (α:=U3) [(a1,((nth (0,(0,(0,(0,(0,(0,0)))))) (nth aE d5 p4).1 0),((nth bn d0 a0).2.2.2.2.2.2,((-1),((-1),(0,(0,[])))))))])) 16777216) (gd (bx dR (len d6)) (k6 ((),((),((),((),((ah bn d0 a0 (fun bT=>(bT.1,(bT.2.1,(bT.2.2.1,(bT.2.2.2.1,(bT.2.2.2.2.1,((some (len (aZ d6 dR none))),bT.2.2.2.2.2.2)))))))),((ah aE (ah aE (ah aE (ah aE d5 p4 (fun b7=>((tk (ay (len b7.1) 1) (dr 1 b7.1)),b7.2))) p4 (fun bm=>(bm.1,(bm.2.1,(bm.2.2.1,(cR.1.1,bm.2.2.2.2)))))) p4 (fun bI=>(bI.1,(bI.2.1,(bI.2.2.1,(bI.2.2.2.1,(true,bI.2.2.2.2.2))))))) p4 (fun bT=>(bT.1,(bT.2.1,(bT.2.2.1,(bT.2.2.2.1,(bT.2.2.2.2.1,0))))))),((cat (aZ d6 dR none) [(some (cat fl [(a1,((nth (0,(0,(0,(0,(0,(0,0)))))) (nth aE d5 p4).1 0),((nth bn d0 a0).2.2.2.2.2.2,((-1),((-1),(0,(0,[])))))))]))]),())))))))))))))) (fun eT=>(bd (aY d6 eT) (fun kf=>(opt (nth bn d0 a0).2.2.2.2.2.1 (gd (bw (len (α:=U3) [(a1,((nth (0,(0,(0,(0,(0,(0,0)))))) (nth aE d5 p4).1 0),((nth bn d0 a0).2.2.2.2.2.2,((-1),((-1),(0,(0,[])))))))]) 16777216) (k6 ((),((),((),((),((ah bn d0 a0 (fun bT=>(bT.1,(bT.2.1,(bT.2.2.1,(bT.2.2.2.1,(bT.2.2.2.2.1,((some (len d6)),bT.2.2.2.2.2.2)))))))),((ah aE (ah aE (ah aE (ah aE d5 p4 (fun b7=>((tk (ay (len b7.1) 1) (dr 1 b7.1)),b7.2))) p4 (fun bm=>(bm.1,(bm.2.1,(bm.2.2.1,(cR.1.1,bm.2.2.2.2)))))) p4 (fun bI=>(bI.1,(bI.2.1,(bI.2.2.1,(bI.2.2.2.1,(true,bI.2.2.2.2.2))))))) p4 (fun bT=>(bT.1,(bT.2.1,(bT.2.2.1,(bT.2.2.2.1,(bT.2.2.2.2.1,(zN (len kf))))))))),((cat d6 [(some [(a1,((nth (0,(0,(0,(0,(0,(0,0)))))) (nth aE d5 p4).1 0),((nth bn d0 a0).2.2.2.2.2.2,((-1),((-1),(0,(0,[])))))))])]),()))))))))) (fun df=>(bd (aY d6 df) (fun kX=>(gd (bw (aL (len kX) (len (α:=U3) [(a1,((nth (0,(0,(0,(0,(0,(0,0)))))) (nth aE d5 p4).1 0),((nth bn d0 a0).2.2.2.2.2.2,((-1),((-1),(0,(0,[])))))))])) 16777216) (gd (bx df (len d6)) (k6 ((),((),((),((),((ah bn d0 a0 (fun bm=>(bm.1,(bm.2.1,(bm.2.2.1,(bm.2.2.2.1,(bm.2.2.2.2.1,((some (len (aZ d6 df none))),bm.2.2.2.2.2.2)))))))),((ah aE (ah aE (ah aE (ah aE d5 p4 (fun jt=>((tk (ay (len jt.1) 1) (dr 1 jt.1)),jt.2))) p4 (fun bQ=>(bQ.1,(bQ.2.1,(bQ.2.2.1,(cR.1.1,bQ.2.2.2.2)))))) p4 (fun b7=>(b7.1,(b7.2.1,(b7.2.2.1,(b7.2.2.2.1,(true,b7.2.2.2.2.2))))))) p4 (fun bm=>(bm.1,(bm.2.1,(bm.2.2.1,(bm.2.2.2.1,(bm.2.2.2.2.1,(zN (len kf))))))))),((cat (aZ d6 df none) [(some (cat kX [(a1,((nth (0,(0,(0,(0,(0,(0,0)))))) (nth aE d5 p4).1 0),((nth bn d0 a0).2.2.2.2.2.2,((-1),((-1),(0,(0,[])))))))]))]),()))))))))))))))))))))))))) (k6 ((),((),((),((),(d0,(d5,(d6,())))))))))) (fun (mA:(Unit×(Unit×(Unit×(Unit×(T0×(T6×(T7×Unit))))))))=>(J _ _ (fun (JG:(Unit×(Unit×(Unit×(Unit×(T1×(T2×(T3×(T4×(T6×(T9×Unit))))))))))→_)=>(bd (e.dw L J a0 (nth aE mA.2.2.2.2.2.1 p4).2.2.2.1 mA.2.2.2.2.1 c0 mA.2.2.2.2.2.1 mA.2.2.2.2.2.2.1 d7 d1 d2 d3 d4 d8) (fun iQ=>(JG ((),((),((),((),(iQ.2.1,(iQ.2.2.1,(iQ.2.2.2.1,(iQ.2.2.2.2.1,((ah aE mA.2.2.2.2.2.1 p4 (fun fw=>(fw.1,(fw.2.1,(fw.2.2.1,(iQ.1.1,fw.2.2.2.2)))))),(iQ.2.2.2.2.2.1,())))))))))))))) (fun (lP:(Unit×(Unit×(Unit×(Unit×(T1×(T2×(T3×(T4×(T6×(T9×Unit)))))))))))=>(opt (nth bn mA.2.2.2.2.1 a0).2.2.2.2.2.1 none (fun du=>(bd (aY mA.2.2.2.2.2.2.1 du) (fun kO=>(gd (bq (nth aE lP.2.2.2.2.2.2.2.2.1 p4).2.2.2.2.2) (gd (bx (nN (nth aE lP.2.2.2.2.2.2.2.2.1 p4).2.2.2.2.2) (len kO)) (J _ _ (fun (Oe:(Unit×(Unit×(Unit×(Unit×(T7×Unit)))))→_)=>(br (nth aE lP.2.2.2.2.2.2.2.2.1 p4).2.2.2.1.2.2.2.2.2.2.2.2.2.2.2.2.2.2.2.2.1 (bd (aY mA.2.2.2.2.2.2.1 du) (fun iP=>(Oe ((),((),((),((),((aZ mA.2.2.2.2.2.2.1 du (some (ah mC iP (nN (nth aE lP.2.2.2.2.2.2.2.2.1 p4).2.2.2.2.2) (fun bI=>(bI.1,(bI.2.1,(bI.2.2.1,((nth bn mA.2.2.2.2.1 a0).2.2.2.2.2.2,bI.2.2.2.2)))))))),())))))))) (Oe ((),((),((),((),(mA.2.2.2.2.2.2.1,())))))))) (fun (yK:(Unit×(Unit×(Unit×(Unit×(T7×Unit))))))=>(J _ _ (fun (Od:(Unit×(Unit×(Unit×(Unit×(T6×(T7×(T2×Unit)))))))→_)=>(br (nth aE lP.2.2.2.2.2.2.2.2.1 p4).2.2.2.1.2.2.2.2.2.2.2.2.2.2.2.2.2.2.2.1 (bd (aY yK.2.2.2.2.1 du) (fun Dp=>(bd (aY (aZ yK.2.2.2.2.1 du (some (ah mC Dp (nN (nth aE lP.2.2.2.2.2.2.2.2.1 p4).2.2.2.2.2) (fun bm=>(bm.1,(bm.2.1,(bm.2.2.1,(bm.2.2.2.1,((nth bn mA.2.2.2.2.1 a0).2.2.2.2.2.2,bm.2.2.2.2.2))))))))) du) (fun Dn=>(bd (e.cT L J p4 lP.2.2.2.2.2.2.2.2.1 d7) (fun tI=>(Od ((),((),((),((),(tI.2.1,((aZ (aZ yK.2.2.2.2.1 du (some (ah mC Dp (nN (nth aE lP.2.2.2.2.2.2.2.2.1 p4).2.2.2.2.2) (fun bQ=>(bQ.1,(bQ.2.1,(bQ.2.2.1,(bQ.2.2.2.1,((nth bn mA.2.2.2.2.1 a0).2.2.2.2.2.2,bQ.2.2.2.2.2))))))))) du (some (ah mC Dn (nN (nth aE lP.2.2.2.2.2.2.2.2.1 p4).2.2.2.2.2) (fun bQ=>(bQ.1,(bQ.2.1,(bQ.2.2.1,(bQ.2.2.2.1,(bQ.2.2.2.2.1,(nth aE lP.2.2.2.2.2.2.2.2.1 p4).2.2.2.1.2.2.2.2.2.2.2.2.2.2.2.2.2.2.2.2.2))))))))),(tI.2.2.1,())))))))))))))) (Od ((),((),((),((),(lP.2.2.2.2.2.2.2.2.1,(yK.2.2.2.2.1,(d7,())))))))))) (fun (zo:(Unit×(Unit×(Unit×(Unit×(T6×(T7×(T2×Unit))))))))=>(bd (e.bf L J p4 zo.2.2.2.2.1 zo.2.2.2.2.2.2.1) (fun HY=>(some ((HY.1.1,(0,())),((ah bn mA.2.2.2.2.1 a0 (fun bm=>(bm.1,(bm.2.1,(bm.2.2.1,(bm.2.2.2.1,(bm.2.2.2.2.1,(bm.2.2.2.2.2.1,(ae IntKind.i64 bm.2.2.2.2.2.2 1))))))))),(lP.2.2.2.2.1,(lP.2.2.2.2.2.1,(lP.2.2.2.2.2.2.1,(lP.2.2.2.2.2.2.2.1,(zo.2.2.2.2.1,(zo.2.2.2.2.2.1,(zo.2.2.2.2.2.2.1,(lP.2.2.2.2.2.2.2.2.2.1,()))))))))))))))))))))))))))))))))))))))))))) (fun HX=>(bd (aY c0 HX) (fun HW=>(bd (e.ab L J a1 0 (aI IntKind.i64 (zN (len HW)) 1)) (fun HV=>(br (ax HV.1.1) (some ((false,(2,())),(d0,(d1,(d2,(d3,(d4,(d5,(d6,(d7,(d8,()))))))))))) (opt (nth bn d0 a0).2.2.2.2.1 none (fun Dm=>(bd (aY c0 Dm) (fun HU=>(gd (bq a1) (gd (bx (nN a1) (len HU)) (bd (aY c0 Dm) (fun HR=>(opt (nth none HR (nN a1)) none (fun bN=>(bd (e.bf L J bN d5 d7) (fun HQ=>(br HQ.1.1 (some ((false,(23,())),(d0,(d1,(d2,(d3,(d4,(d5,(d6,(d7,(d8,()))))))))))) (J _ _ (fun (rY:(Unit×(Unit×(Unit×(Unit×(T0×(T6×(T7×Unit)))))))→_)=>(br (ax (nth aE d5 bN).2.2.2.2.1) (gd (bx 0 (len (nth aE d5 bN).1)) (gd (bw 1 (len (nth aE d5 bN).1)) (gd (bw (len (nth aE d5 bN).1) (len (nth aE d5 bN).1)) (opt (nth aE (ah aE d5 bN (fun fw=>((tk (ay (len fw.1) 1) (dr 1 fw.1)),fw.2))) bN).2.1 (bd (e.gh L J (nth bn d0 a0).1 none (nth aE (ah aE d5 bN (fun fw=>((tk (ay (len fw.1) 1) (dr 1 fw.1)),fw.2))) bN).2.2.1 (nth (0,(0,(0,(0,(0,(0,0)))))) (nth aE d5 bN).1 0) d7) (fun xD=>(opt (nth bn d0 a0).2.2.2.2.2.1 (opt (nth bn d0 a0).2.2.2.2.2.1 (gd (bw (len (α:=U3) [(a1,((nth (0,(0,(0,(0,(0,(0,0)))))) (nth aE d5 bN).1 0),((nth bn d0 a0).2.2.2.2.2.2,((-1),((-1),(0,(0,[])))))))]) 16777216) (rY ((),((),((),((),((ah bn d0 a0 (fun cy=>(cy.1,(cy.2.1,(cy.2.2.1,(cy.2.2.2.1,(cy.2.2.2.2.1,((some (len d6)),cy.2.2.2.2.2.2)))))))),((ah aE (ah aE (ah aE (ah aE d5 bN (fun bm=>((tk (ay (len bm.1) 1) (dr 1 bm.1)),bm.2))) bN (fun bI=>(bI.1,(bI.2.1,(bI.2.2.1,(xD.1.1,bI.2.2.2.2)))))) bN (fun bT=>(bT.1,(bT.2.1,(bT.2.2.1,(bT.2.2.2.1,(true,bT.2.2.2.2.2))))))) bN (fun cy=>(cy.1,(cy.2.1,(cy.2.2.1,(cy.2.2.2.1,(cy.2.2.2.2.1,0))))))),((cat d6 [(some [(a1,((nth (0,(0,(0,(0,(0,(0,0)))))) (nth aE d5 bN).1 0),((nth bn d0 a0).2.2.2.2.2.2,((-1),((-1),(0,(0,[])))))))])]),()))))))))) (fun xC=>(bd (aY d6 xC) (fun xB=>(gd (bw (aL (len xB) (len (α:=U3) [(a1,((nth (0,(0,(0,(0,(0,(0,0)))))) (nth aE d5 bN).1 0),((nth bn d0 a0).2.2.2.2.2.2,((-1),((-1),(0,(0,[])))))))])) 16777216) (gd (bx xC (len d6)) (rY ((),((),((),((),((ah bn d0 a0 (fun bI=>(bI.1,(bI.2.1,(bI.2.2.1,(bI.2.2.2.1,(bI.2.2.2.2.1,((some (len (aZ d6 xC none))),bI.2.2.2.2.2.2)))))))),((ah aE (ah aE (ah aE (ah aE d5 bN (fun bQ=>((tk (ay (len bQ.1) 1) (dr 1 bQ.1)),bQ.2))) bN (fun b7=>(b7.1,(b7.2.1,(b7.2.2.1,(xD.1.1,b7.2.2.2.2)))))) bN (fun bm=>(bm.1,(bm.2.1,(bm.2.2.1,(bm.2.2.2.1,(true,bm.2.2.2.2.2))))))) bN (fun bI=>(bI.1,(bI.2.1,(bI.2.2.1,(bI.2.2.2.1,(bI.2.2.2.2.1,0))))))),((cat (aZ d6 xC none) [(some (cat xB [(a1,((nth (0,(0,(0,(0,(0,(0,0)))))) (nth aE d5 bN).1 0),((nth bn d0 a0).2.2.2.2.2.2,((-1),((-1),(0,(0,[])))))))]))]),())))))))))))))) (fun HP=>(bd (aY d6 HP) (fun Dl=>(opt (nth bn d0 a0).2.2.2.2.2.1 (gd (bw (len (α:=U3) [(a1,((nth (0,(0,(0,(0,(0,(0,0)))))) (nth aE d5 bN).1 0),((nth bn d0 a0).2.2.2.2.2.2,((-1),((-1),(0,(0,[])))))))]) 16777216) (rY ((),((),((),((),((ah bn d0 a0 (fun bI=>(bI.1,(bI.2.1,(bI.2.2.1,(bI.2.2.2.1,(bI.2.2.2.2.1,((some (len d6)),bI.2.2.2.2.2.2)))))))),((ah aE (ah aE (ah aE (ah aE d5 bN (fun bQ=>((tk (ay (len bQ.1) 1) (dr 1 bQ.1)),bQ.2))) bN (fun b7=>(b7.1,(b7.2.1,(b7.2.2.1,(xD.1.1,b7.2.2.2.2)))))) bN (fun bm=>(bm.1,(bm.2.1,(bm.2.2.1,(bm.2.2.2.1,(true,bm.2.2.2.2.2))))))) bN (fun bI=>(bI.1,(bI.2.1,(bI.2.2.1,(bI.2.2.2.1,(bI.2.2.2.2.1,(zN (len Dl))))))))),((cat d6 [(some [(a1,((nth (0,(0,(0,(0,(0,(0,0)))))) (nth aE d5 bN).1 0),((nth bn d0 a0).2.2.2.2.2.2,((-1),((-1),(0,(0,[])))))))])]),()))))))))) (fun Dk=>(bd (aY d6 Dk) (fun Dj=>(gd (bw (aL (len Dj) (len (α:=U3) [(a1,((nth (0,(0,(0,(0,(0,(0,0)))))) (nth aE d5 bN).1 0),((nth bn d0 a0).2.2.2.2.2.2,((-1),((-1),(0,(0,[])))))))])) 16777216) (gd (bx Dk (len d6)) (rY ((),((),((),((),((ah bn d0 a0 (fun b7=>(b7.1,(b7.2.1,(b7.2.2.1,(b7.2.2.2.1,(b7.2.2.2.2.1,((some (len (aZ d6 Dk none))),b7.2.2.2.2.2.2)))))))),((ah aE (ah aE (ah aE (ah aE d5 bN (fun jR=>((tk (ay (len jR.1) 1) (dr 1 jR.1)),jR.2))) bN (fun jt=>(jt.1,(jt.2.1,(jt.2.2.1,(xD.1.1,jt.2.2.2.2)))))) bN (fun bQ=>(bQ.1,(bQ.2.1,(bQ.2.2.1,(bQ.2.2.2.1,(true,bQ.2.2.2.2.2))))))) bN (fun b7=>(b7.1,(b7.2.1,(b7.2.2.1,(b7.2.2.2.1,(b7.2.2.2.2.1,(zN (len Dl))))))))),((cat (aZ d6 Dk none) [(some (cat Dj [(a1,((nth (0,(0,(0,(0,(0,(0,0)))))) (nth aE d5 bN).1 0),((nth bn d0 a0).2.2.2.2.2.2,((-1),((-1),(0,(0,[])))))))]))]),())))))))))))))))))))) (fun Ao=>(bd (e.gh L J (nth bn d0 a0).1 (some Ao) (nth aE (ah aE d5 bN (fun cy=>((tk (ay (len cy.1) 1) (dr 1 cy.1)),cy.2))) bN).2.2.1 (nth (0,(0,(0,(0,(0,(0,0)))))) (nth aE d5 bN).1 0) d7) (fun xA=>(opt (nth bn d0 a0).2.2.2.2.2.1 (opt (nth bn d0 a0).2.2.2.2.2.1 (gd (bw (len (α:=U3) [(a1,((nth (0,(0,(0,(0,(0,(0,0)))))) (nth aE d5 bN).1 0),((nth bn d0 a0).2.2.2.2.2.2,((-1),((-1),(0,(0,[])))))))]) 16777216) (rY ((),((),((),((),((ah bn d0 a0 (fun bT=>(bT.1,(bT.2.1,(bT.2.2.1,(bT.2.2.2.1,(bT.2.2.2.2.1,((some (len d6)),bT.2.2.2.2.2.2)))))))),((ah aE (ah aE (ah aE (ah aE d5 bN (fun b7=>((tk (ay (len b7.1) 1) (dr 1 b7.1)),b7.2))) bN (fun bm=>(bm.1,(bm.2.1,(bm.2.2.1,(xA.1.1,bm.2.2.2.2)))))) bN (fun bI=>(bI.1,(bI.2.1,(bI.2.2.1,(bI.2.2.2.1,(true,bI.2.2.2.2.2))))))) bN (fun bT=>(bT.1,(bT.2.1,(bT.2.2.1,(bT.2.2.2.1,(bT.2.2.2.2.1,0))))))),((cat d6 [(some [(a1,((nth (0,(0,(0,(0,(0,(0,0)))))) (nth aE d5 bN).1 0),((nth bn d0 a0).2.2.2.2.2.2,((-1),((-1),(0,(0,[])))))))])]),()))))))))) (fun uI=>(bd (aY d6 uI) (fun tH=>(gd (bw (aL (len tH) (len (α:=U3) [(a1,((nth (0,(0,(0,(0,(0,(0,0)))))) (nth aE d5 bN).1 0),((nth bn d0 a0).2.2.2.2.2.2,((-1),((-1),(0,(0,[])))))))])) 16777216) (gd (bx uI (len d6)) (rY ((),((),((),((),((ah bn d0 a0 (fun bm=>(bm.1,(bm.2.1,(bm.2.2.1,(bm.2.2.2.1,(bm.2.2.2.2.1,((some (len (aZ d6 uI none))),bm.2.2.2.2.2.2)))))))),((ah aE (ah aE (ah aE (ah aE d5 bN (fun jt=>((tk (ay (len jt.1) 1) (dr 1 jt.1)),jt.2))) bN (fun bQ=>(bQ.1,(bQ.2.1,(bQ.2.2.1,(xA.1.1,bQ.2.2.2.2)))))) bN (fun b7=>(b7.1,(b7.2.1,(b7.2.2.1,(b7.2.2.2.1,(true,b7.2.2.2.2.2))))))) bN (fun bm=>(bm.1,(bm.2.1,(bm.2.2.1,(bm.2.2.2.1,(bm.2.2.2.2.1,0))))))),((cat (aZ d6 uI none) [(some (cat tH [(a1,((nth (0,(0,(0,(0,(0,(0,0)))))) (nth aE d5 bN).1 0),((nth bn d0 a0).2.2.2.2.2.2,((-1),((-1),(0,(0,[])))))))]))]),())))))))))))))) (fun Cy=>(bd (aY d6 Cy) (fun wk=>(opt (nth bn d0 a0).2.2.2.2.2.1 (gd (bw (len (α:=U3) [(a1,((nth (0,(0,(0,(0,(0,(0,0)))))) (nth aE d5 bN).1 0),((nth bn d0 a0).2.2.2.2.2.2,((-1),((-1),(0,(0,[])))))))]) 16777216) (rY ((),((),((),((),((ah bn d0 a0 (fun bm=>(bm.1,(bm.2.1,(bm.2.2.1,(bm.2.2.2.1,(bm.2.2.2.2.1,((some (len d6)),bm.2.2.2.2.2.2)))))))),((ah aE (ah aE (ah aE (ah aE d5 bN (fun jt=>((tk (ay (len jt.1) 1) (dr 1 jt.1)),jt.2))) bN (fun bQ=>(bQ.1,(bQ.2.1,(bQ.2.2.1,(xA.1.1,bQ.2.2.2.2)))))) bN (fun b7=>(b7.1,(b7.2.1,(b7.2.2.1,(b7.2.2.2.1,(true,b7.2.2.2.2.2))))))) bN (fun bm=>(bm.1,(bm.2.1,(bm.2.2.1,(bm.2.2.2.1,(bm.2.2.2.2.1,(zN (len wk))))))))),((cat d6 [(some [(a1,((nth (0,(0,(0,(0,(0,(0,0)))))) (nth aE d5 bN).1 0),((nth bn d0 a0).2.2.2.2.2.2,((-1),((-1),(0,(0,[])))))))])]),()))))))))) (fun xz=>(bd (aY d6 xz) (fun An=>(gd (bw (aL (len An) (len (α:=U3) [(a1,((nth (0,(0,(0,(0,(0,(0,0)))))) (nth aE d5 bN).1 0),((nth bn d0 a0).2.2.2.2.2.2,((-1),((-1),(0,(0,[])))))))])) 16777216) (gd (bx xz (len d6)) (rY ((),((),((),((),((ah bn d0 a0 (fun bQ=>(bQ.1,(bQ.2.1,(bQ.2.2.1,(bQ.2.2.2.1,(bQ.2.2.2.2.1,((some (len (aZ d6 xz none))),bQ.2.2.2.2.2.2)))))))),((ah aE (ah aE (ah aE (ah aE d5 bN (fun ry=>((tk (ay (len ry.1) 1) (dr 1 ry.1)),ry.2))) bN (fun jR=>(jR.1,(jR.2.1,(jR.2.2.1,(xA.1.1,jR.2.2.2.2)))))) bN (fun jt=>(jt.1,(jt.2.1,(jt.2.2.1,(jt.2.2.2.1,(true,jt.2.2.2.2.2))))))) bN (fun bQ=>(bQ.1,(bQ.2.1,(bQ.2.2.1,(bQ.2.2.2.1,(bQ.2.2.2.2.1,(zN (len wk))))))))),((cat (aZ d6 xz none) [(some (cat An [(a1,((nth (0,(0,(0,(0,(0,(0,0)))))) (nth aE d5 bN).1 0),((nth bn d0 a0).2.2.2.2.2.2,((-1),((-1),(0,(0,[])))))))]))]),()))))))))))))))))))))))))) (rY ((),((),((),((),(d0,(d5,(d6,())))))))))) (fun (mL:(Unit×(Unit×(Unit×(Unit×(T0×(T6×(T7×Unit))))))))=>(J _ _ (fun (Tl:(Unit×(Unit×(Unit×(Unit×(T1×(T2×(T3×(T4×(T6×(T9×Unit))))))))))→_)=>(bd (e.dw L J a0 (nth aE mL.2.2.2.2.2.1 bN).2.2.2.1 mL.2.2.2.2.1 c0 mL.2.2.2.2.2.1 mL.2.2.2.2.2.2.1 d7 d1 d2 d3 d4 d8) (fun rH=>(Tl ((),((),((),((),(rH.2.1,(rH.2.2.1,(rH.2.2.2.1,(rH.2.2.2.2.1,((ah aE mL.2.2.2.2.2.1 bN (fun bT=>(bT.1,(bT.2.1,(bT.2.2.1,(rH.1.1,bT.2.2.2.2)))))),(rH.2.2.2.2.2.1,())))))))))))))) (fun (lO:(Unit×(Unit×(Unit×(Unit×(T1×(T2×(T3×(T4×(T6×(T9×Unit)))))))))))=>(opt (nth bn mL.2.2.2.2.1 a0).2.2.2.2.2.1 none (fun qm=>(bd (aY mL.2.2.2.2.2.2.1 qm) (fun Di=>(gd (bq (nth aE lO.2.2.2.2.2.2.2.2.1 bN).2.2.2.2.2) (gd (bx (nN (nth aE lO.2.2.2.2.2.2.2.2.1 bN).2.2.2.2.2) (len Di)) (J _ _ (fun (Oc:(Unit×(Unit×(Unit×(Unit×(T7×Unit)))))→_)=>(br (nth aE lO.2.2.2.2.2.2.2.2.1 bN).2.2.2.1.2.2.2.2.2.2.2.2.2.2.2.2.2.2.2.2.1 (bd (aY mL.2.2.2.2.2.2.1 qm) (fun HO=>(Oc ((),((),((),((),((aZ mL.2.2.2.2.2.2.1 qm (some (ah mC HO (nN (nth aE lO.2.2.2.2.2.2.2.2.1 bN).2.2.2.2.2) (fun b7=>(b7.1,(b7.2.1,(b7.2.2.1,((nth bn mL.2.2.2.2.1 a0).2.2.2.2.2.2,b7.2.2.2.2)))))))),())))))))) (Oc ((),((),((),((),(mL.2.2.2.2.2.2.1,())))))))) (fun (Cu:(Unit×(Unit×(Unit×(Unit×(T7×Unit))))))=>(J _ _ (fun (Oa:(Unit×(Unit×(Unit×(Unit×(T6×(T7×(T2×Unit)))))))→_)=>(br (nth aE lO.2.2.2.2.2.2.2.2.1 bN).2.2.2.1.2.2.2.2.2.2.2.2.2.2.2.2.2.2.2.1 (bd (aY Cu.2.2.2.2.1 qm) (fun NL=>(bd (aY (aZ Cu.2.2.2.2.1 qm (some (ah mC NL (nN (nth aE lO.2.2.2.2.2.2.2.2.1 bN).2.2.2.2.2) (fun bQ=>(bQ.1,(bQ.2.1,(bQ.2.2.1,(bQ.2.2.2.1,((nth bn mL.2.2.2.2.1 a0).2.2.2.2.2.2,bQ.2.2.2.2.2))))))))) qm) (fun S4=>(bd (e.cT L J bN lO.2.2.2.2.2.2.2.2.1 d7) (fun HN=>(Oa ((),((),((),((),(HN.2.1,((aZ (aZ Cu.2.2.2.2.1 qm (some (ah mC NL (nN (nth aE lO.2.2.2.2.2.2.2.2.1 bN).2.2.2.2.2) (fun jR=>(jR.1,(jR.2.1,(jR.2.2.1,(jR.2.2.2.1,((nth bn mL.2.2.2.2.1 a0).2.2.2.2.2.2,jR.2.2.2.2.2))))))))) qm (some (ah mC S4 (nN (nth aE lO.2.2.2.2.2.2.2.2.1 bN).2.2.2.2.2) (fun jR=>(jR.1,(jR.2.1,(jR.2.2.1,(jR.2.2.2.1,(jR.2.2.2.2.1,(nth aE lO.2.2.2.2.2.2.2.2.1 bN).2.2.2.1.2.2.2.2.2.2.2.2.2.2.2.2.2.2.2.2.2))))))))),(HN.2.2.1,())))))))))))))) (Oa ((),((),((),((),(lO.2.2.2.2.2.2.2.2.1,(Cu.2.2.2.2.1,(d7,())))))))))) (fun (zn:(Unit×(Unit×(Unit×(Unit×(T6×(T7×(T2×Unit))))))))=>(bd (e.bf L J bN zn.2.2.2.2.1 zn.2.2.2.2.2.2.1) (fun SZ=>(some ((SZ.1.1,(0,())),((ah bn mL.2.2.2.2.1 a0 (fun bQ=>(bQ.1,(bQ.2.1,(bQ.2.2.1,(bQ.2.2.2.1,(bQ.2.2.2.2.1,(bQ.2.2.2.2.2.1,(ae IntKind.i64 bQ.2.2.2.2.2.2 1))))))))),(lO.2.2.2.2.1,(lO.2.2.2.2.2.1,(lO.2.2.2.2.2.2.1,(lO.2.2.2.2.2.2.2.1,(zn.2.2.2.2.1,(zn.2.2.2.2.2.1,(zn.2.2.2.2.2.2.1,(lO.2.2.2.2.2.2.2.2.2.1,())))))))))))))))))))))))))))))))))))))))))))))))
def e.eH (L:fX) (J:fY) (v0:(Unit×(((List U3)×Unit)×lU))) (k:(((Int×Unit)×(((List U3)×Unit)×lU))→(Option (((List U3)×Unit)×Unit)))) (s:((Int×Unit)×(((List U3)×Unit)×lU))):(Option (((List U3)×Unit)×Unit)):=(br (ba s.1.1 (zN (len v0.2.1.1))) (gd (bq s.1.1) (gd (bx (nN s.1.1) (len s.2.1.1)) (bd (e.cw L J (nth mC s.2.1.1 (nN s.1.1)).2.2.2.2.2.2.2) (fun p0=>(gd (bq s.1.1) (gd (bx (nN s.1.1) (len s.2.1.1)) (k (((ae IntKind.i64 s.1.1 1),()),(((ah mC s.2.1.1 (nN s.1.1) (fun r1=>(r1.1,(r1.2.1,(r1.2.2.1,(r1.2.2.2.1,(r1.2.2.2.2.1,(r1.2.2.2.2.2.1,(r1.2.2.2.2.2.2.1,p0.1.1))))))))),()),((),((),()))))))))))) (some ((s.2.1.1,()),())))
def e.cW (L:fX) (J:fY) (a0:Nat) (c0:T0) (c1:T1) (c2:T2) (c3:T3) (c4:T4) (c5:T5) (c6:T6) (c7:T7) (c8:T2) (c9:T9):(Option (((List U3)×Unit)×Unit)):=(J _ _ (fun (k0:(Unit×(((List U3)×Unit)×lU))→_)=>(opt (nth bn c0 a0).2.2.2.2.2.1 (k0 ((),(([],()),((),((),()))))) (fun p1=>(bd (aY c7 p1) (fun p2=>(gd (bw (len p2) 16777216) (k0 ((),((p2,()),((),((),()))))))))))) (fun (s3:(Unit×(((List U3)×Unit)×lU)))=>(L _ _ (e.eH L J s3) ((0,()),((s3.2.1.1,()),((),((),())))))))
def e.bX (L:fX) (J:fY) (d0:T0) (d1:T1) (d2:T2) (d3:T3) (d4:T4) (d5:T5) (d6:T6) (d7:T7) (d8:T2) (d9:T9):(Option U6):=(bd (e.fN L J (2,(1,(0,64))) [] [[(2,(0,(0,(0,(64,(0,0)))))),(4,(0,(0,(0,(1,(0,0))))))]] d7 d0 d1 d2 d3 d4 d5 d6 d8 d9) (fun p0=>(opt p0.1.1 (J _ _ (fun (k1:(Unit×U2)→_)=>(some ((false,()),(p0.2.1,(p0.2.2.1,(p0.2.2.2.1,(p0.2.2.2.2.1,(p0.2.2.2.2.2.1,(p0.2.2.2.2.2.2.1,(p0.2.2.2.2.2.2.2.1,(d7,(p0.2.2.2.2.2.2.2.2.1,(p0.2.2.2.2.2.2.2.2.2.1,()))))))))))))) (fun (s2:(Unit×U2))=>none)) (fun p3=>(J _ _ (fun (k4:(Unit×U2)→_)=>(br (ax (aj p0.1.2.1 0)) (some ((false,()),(p0.2.1,(p0.2.2.1,(p0.2.2.2.1,(p0.2.2.2.2.1,(p0.2.2.2.2.2.1,(p0.2.2.2.2.2.2.1,(p0.2.2.2.2.2.2.2.1,(d7,(p0.2.2.2.2.2.2.2.2.1,(p0.2.2.2.2.2.2.2.2.2.1,())))))))))))) (k4 ((),((),((),((),()))))))) (fun (s5:(Unit×U2))=>(bd (e.cj L J p3 0 p0.2.2.2.2.2.2.1 p0.2.1 p0.2.2.1 p0.2.2.2.1 p0.2.2.2.2.1 p0.2.2.2.2.2.1 p0.2.2.2.2.2.2.2.1 d7 p0.2.2.2.2.2.2.2.2.1 p0.2.2.2.2.2.2.2.2.2.1) (fun p6=>(bd (e.cj L J p3 0 p0.2.2.2.2.2.2.1 p6.2.1 p6.2.2.1 p6.2.2.2.1 p6.2.2.2.2.1 p6.2.2.2.2.2.1 p6.2.2.2.2.2.2.1 p6.2.2.2.2.2.2.2.1 p6.2.2.2.2.2.2.2.2.1 p6.2.2.2.2.2.2.2.2.2.1) (fun p7=>(bd (e.cj L J p3 0 p0.2.2.2.2.2.2.1 p7.2.1 p7.2.2.1 p7.2.2.2.1 p7.2.2.2.2.1 p7.2.2.2.2.2.1 p7.2.2.2.2.2.2.1 p7.2.2.2.2.2.2.2.1 p7.2.2.2.2.2.2.2.2.1 p7.2.2.2.2.2.2.2.2.2.1) (fun p8=>(bd (e.cW L J p3 p8.2.1 p8.2.2.1 p8.2.2.2.1 p8.2.2.2.2.1 p8.2.2.2.2.2.1 p0.2.2.2.2.2.2.1 p8.2.2.2.2.2.2.1 p8.2.2.2.2.2.2.2.1 p8.2.2.2.2.2.2.2.2.1 p8.2.2.2.2.2.2.2.2.2.1) (fun p9=>(br p8.1.1 (br (aj (zN (len p9.1.1)) 2) (gd (bx 0 (len p9.1.1)) (br (aj (nth mC p9.1.1 0).2.2.1 0) (gd (bx 0 (len p9.1.1)) (br (aj (nth mC p9.1.1 0).2.2.2.2.1 0) (gd (bx 1 (len p9.1.1)) (br (aj (nth mC p9.1.1 1).2.2.1 1) (gd (bx 1 (len p9.1.1)) (br (aj (nth mC p9.1.1 1).2.2.2.1 2) (gd (bx 1 (len p9.1.1)) (some (((aj (nth mC p9.1.1 1).2.2.2.2.1 2),()),(p8.2.1,(p8.2.2.1,(p8.2.2.2.1,(p8.2.2.2.2.1,(p8.2.2.2.2.2.1,(p0.2.2.2.2.2.2.1,(p8.2.2.2.2.2.2.1,(p8.2.2.2.2.2.2.2.1,(p8.2.2.2.2.2.2.2.2.1,(p8.2.2.2.2.2.2.2.2.2.1,()))))))))))))) (some ((false,()),(p8.2.1,(p8.2.2.1,(p8.2.2.2.1,(p8.2.2.2.2.1,(p8.2.2.2.2.2.1,(p0.2.2.2.2.2.2.1,(p8.2.2.2.2.2.2.1,(p8.2.2.2.2.2.2.2.1,(p8.2.2.2.2.2.2.2.2.1,(p8.2.2.2.2.2.2.2.2.2.1,())))))))))))))) (some ((false,()),(p8.2.1,(p8.2.2.1,(p8.2.2.2.1,(p8.2.2.2.2.1,(p8.2.2.2.2.2.1,(p0.2.2.2.2.2.2.1,(p8.2.2.2.2.2.2.1,(p8.2.2.2.2.2.2.2.1,(p8.2.2.2.2.2.2.2.2.1,(p8.2.2.2.2.2.2.2.2.2.1,())))))))))))))) (some ((false,()),(p8.2.1,(p8.2.2.1,(p8.2.2.2.1,(p8.2.2.2.2.1,(p8.2.2.2.2.2.1,(p0.2.2.2.2.2.2.1,(p8.2.2.2.2.2.2.1,(p8.2.2.2.2.2.2.2.1,(p8.2.2.2.2.2.2.2.2.1,(p8.2.2.2.2.2.2.2.2.2.1,())))))))))))))) (some ((false,()),(p8.2.1,(p8.2.2.1,(p8.2.2.2.1,(p8.2.2.2.2.1,(p8.2.2.2.2.2.1,(p0.2.2.2.2.2.2.1,(p8.2.2.2.2.2.2.1,(p8.2.2.2.2.2.2.2.1,(p8.2.2.2.2.2.2.2.2.1,(p8.2.2.2.2.2.2.2.2.2.1,())))))))))))))) (some ((false,()),(p8.2.1,(p8.2.2.1,(p8.2.2.2.1,(p8.2.2.2.2.1,(p8.2.2.2.2.2.1,(p0.2.2.2.2.2.2.1,(p8.2.2.2.2.2.2.1,(p8.2.2.2.2.2.2.2.1,(p8.2.2.2.2.2.2.2.2.1,(p8.2.2.2.2.2.2.2.2.2.1,()))))))))))))) (some ((false,()),(p8.2.1,(p8.2.2.1,(p8.2.2.2.1,(p8.2.2.2.2.1,(p8.2.2.2.2.2.1,(p0.2.2.2.2.2.2.1,(p8.2.2.2.2.2.2.1,(p8.2.2.2.2.2.2.2.1,(p8.2.2.2.2.2.2.2.2.1,(p8.2.2.2.2.2.2.2.2.2.1,())))))))))))))))))))))))))))
theorem zi:g.bX [] [] [] [] [] [] [] [] [] []=e.bX Tg Tn [] [] [] [] [] [] [] [] [] []:=by kernel_rfl
theorem zj:(match e.bX Rd Rj [] [] [] [] [] [] [] [] [] [] with | some r=>r.1.1 | none=>false)=true:=by decide +kernel
theorem zh:Shown:=by
 have h:=zj
 rw [←AO,←A5,←zi] at h
 cases hs:g.bX [] [] [] [] [] [] [] [] [] [] with
 | none=>rw [hs] at h;cases h
 | some r=>rw [hs] at h;exact ⟨r,hs,h⟩
end Go.Proofs.YtfffmmahegdfiaaGreat
namespace Go.Bm
section
open Go.RowKit Go.ChangeShapes Go.WideShapes Go.Deep
def mV (W:World):Mem:=fun b o=>(W.cell? ⟨b,o,none⟩).filter (·.oneCell')
theorem AK {W:World} {b o:Nat} {x:Value} (h:W.cell? ⟨b,o,none⟩=some x) (h1:x.oneCell'=true):mV W b o=some x:=by simp [mV,h,h1]
theorem yy {W:World} {b o:Nat} {x:Value} (h:W.cell? ⟨b,o,none⟩=some x):∃cur ty fz,W.heap[b]?=some (.cells cur ty fz)∧cur[o]?=some x:=by
 unfold World.cell? at h
 split at h
 ·rename_i c ty fz hb
  simp at h
  exact ⟨c,ty,fz,hb,h⟩
 ·cases h
def inR (k:IntKind) (a:Int):Prop:=k.min≤a∧a≤k.max
def yM:(t:Ty)→t.T→Prop
 | .int k,a=>inR k a
 | .bool,_=>True
 | .unit,_=>True
 | .pair a b,x=>yM a x.1∧yM b x.2
 | .arr n t,l=>List.length (α:=t.T) l=n∧∀x:t.T,List.Mem (α:=t.T) x l→yM t x
 | .aH t,l=>List.length (α:=t.T) l≤maxLen∧∀x:t.T,List.Mem (α:=t.T) x l→yM t x
 | _,_=>False
def CO (P:Program) (W:World) (t:TypeId) (u:Ty):Prop:=
 ∀(H:Type) (enc:TypeId×Value→H) (n:Nat) (cs:List Value) (x:DataW H×List MemPlace),DataW.trod enc P W 0 (fun _=>true) true n t cs=some x→∃a:u.T,jL (mV W) (cq u a) cs∧yM u a
theorem qQ {α:Type} {Q:Nat→α→Prop}:∀n:Nat,(∀i,i<n→∃x,Q i x)→∃xs:List α,xs.length=n∧∀(i:Nat) (x:α),xs[i]?=some x→Q i x
 | 0,_=>⟨[],rfl,fun i x h=>by simp at h⟩
 | n+1,h=>by
  obtain ⟨xs,h1,h2⟩:=qQ n (fun i hi=>h i (by omega))
  obtain ⟨x,hx⟩:=h n (by omega)
  refine ⟨xs++[x],by simp [h1],fun i y hy=>?_⟩
  by_cases hi:i<xs.length
  ·rw [zK hi] at hy;exact h2 i y hy
  ·rw [zJ (by omega)] at hy
   have:=(zB.1 hy).1
   have e:i-xs.length=0:=by simp at this;omega
   rw [e] at hy
   simp at hy
   subst hy
   rw [show i=n by omega];exact hx
theorem yw {W:World} {base n:Nat} {a:Addr} {cs:List Value} (h:W.cells? base a n=some cs) (k:Nat) (x:Value) (hk:cs[k]?=some x):W.cell? (a.add k)=some x:=by
 unfold World.cells? at h
 split at h
 ·have hlen:=mapM_some_length h
  have fp:=(zB.1 hk).1
  rw [List.length_range] at hlen
  rw [←hk]
  exact mapM_some_get h k k (by rw [List.getElem?_range (by omega)])
 ·cases h
theorem tr {α:Type} {M:Mem} {f:α→List D}:∀ps:List (α×List Value),(∀q∈ps,jL M (f q.1) q.2)→jL M (ps.map fun q=>f q.1).flatten (ps.map (·.2)).flatten
 | [],_=>⟨rfl,by simp⟩
 | q::ps,h=>by
  rw [List.map_cons,List.map_cons,List.flatten_cons,List.flatten_cons]
  exact (h q (zV ..)).append (tr ps (fun r hr=>h r (zT _ hr)))
theorem tq {α:Type} {M:Mem} {b sz:Nat}:∀(ps:List (α×List Value)) (off:Nat),(∀(i:Nat) (q:α×List Value),ps[i]?=some q→q.2.length=sz∧∀(k:Nat) (x:Value),q.2[k]?=some x→M b (off+i*sz+k)=some x) →
  ∀(j:Nat) (x:Value),(ps.map (·.2)).flatten[j]?=some x→M b (off+j)=some x
 | [],_,_,j,x,h=>by simp at h
 | q::ps,off,h,j,x,hj=>by
  obtain ⟨h1,h2⟩:=h 0 q rfl
  rw [List.map_cons,List.flatten_cons] at hj
  by_cases fp:j<q.2.length
  ·rw [zK fp] at hj
   simpa using h2 j x hj
  ·rw [zJ (by omega)] at hj
   have:=tq ps (off+sz) (fun i r hr=>by
    obtain ⟨k1,k2⟩:=h (i+1) r (by simpa using hr)
    refine ⟨k1,fun k x hk=>?_⟩
    have:=k2 k x hk
    rwa [show off+sz+i*sz+k=off+(i+1)*sz+k by rw [Nat.add_mul];omega]) _ x hj
   rwa [show off+sz+(j-q.2.length)=off+j by omega] at this
theorem jL.lQ {M:Mem} {d:D} {v:Value} (h:VD M d v):jL M [d] [v]:=⟨rfl,fun j c x k1 k2=>by
 cases j with
 | zero=>simp at k1 k2;subst k1 k2;exact h
 | succ j=>simp at k1⟩
theorem jL.cut {M:Mem} {ds es:List D} {cs:List Value} (n:Nat) (h1:jL M ds (cs.take n)) (h2:jL M es (cs.drop n)):jL M (ds++es) cs:=by
 have:=h1.append h2
 rwa [zP] at this
theorem jL.S_ {M:Mem} {ds:List D} {vs:List Value} (h:jL M ds vs):∀x∈vs,x.oneCell'=true:=fun x hx=>by
 obtain ⟨j,hj⟩:=List.getElem?_of_mem hx
 have hl:=(zB.1 hj).1
 exact (h.2 j _ x (zD (by rw [h.1];exact hl)) hj).one
section
variable {P:Program} {W:World}
theorem iN {t:TypeId} {k:IntKind} (ht:P.underlying t=some (.int k)):CO P W t (.int k):=by
 intro H enc n cs x h
 obtain ⟨a,rfl,_,hw⟩:=DataW.trod_int ht h
 refine ⟨a,.lQ (.v _ rfl),?_⟩
 have hw:(decide (k.min≤a) && decide (a≤k.max))=true:=hw
 rw [zC] at hw
 exact ⟨of_decide_eq_true hw.1,of_decide_eq_true hw.2⟩
theorem wc {t e:TypeId} {u:Ty} (ht:P.underlying t=some (.slice e)) (he:P.cellsOf e=u.size) (h0:0<u.size) (h:CO P W e u):CO P W t (.aH u):=by
 intro H enc n cs x hx
 rcases open_slice ht hx with ⟨rfl,_⟩ | ⟨a,len,cap,m,n',D',Pl,rfl,hb,hl,hm,hmm,_,ID⟩
 ·exact ⟨([]:List u.T),.lQ (.rn u.size false none),Nat.zero_le _,fun x hx=>by cases hx⟩
 ·have Ov:m=cap:=by simpa using hmm
  by_cases hc:cap=0
  ·subst hc
   have:len=0:=by omega
   subst this
   exact ⟨([]:List u.T),.lQ (.rn u.size false _),Nat.zero_le _,fun x hx=>by cases hx⟩
  ·obtain ⟨b,off,sp⟩:=a
   have Rp:sp=none:=by
    obtain ⟨gz,k1,_⟩:=ID 0 (by omega)
    obtain ⟨_,hlen,wR⟩:=World.cells?_some k1
    have g0:=wR 0 (by omega)
    obtain ⟨c0,CJ⟩:∃c0,gz[0]?=some c0:=by
     cases gz with
     | nil=>simp at hlen;omega
     | cons c _=>exact ⟨c,rfl⟩
    rw [CJ] at g0
    simpa [Addr.add] using World.cell?_spot g0
   subst Rp
   obtain ⟨ps,h1,h2⟩:=qQ (Q:=fun i (q:u.T×List Value)=>W.cells? 0 ((⟨b,off,none⟩:Addr).add (i*P.cellsOf e)) (P.cellsOf e)=some q.2∧jL (mV W) (cq u q.1) q.2∧yM u q.1) len (fun i hi=>by
    obtain ⟨gz,k1,k2⟩:=ID i (by omega)
    obtain ⟨x,k3,k4⟩:=h H enc n' gz _ k2
    exact ⟨(x,gz),k1,k3,k4⟩)
   have sf:∀q∈ps,jL (mV W) (cq u q.1) q.2:=fun q hq=>by
    obtain ⟨i,hi⟩:=List.getElem?_of_mem hq
    exact (h2 i q hi).2.1
   refine ⟨ps.map (·.1),.lQ ?_,?_,fun x og=>?_⟩
   ·have hlen:((ps.map (·.1)).map (cq u)).length=len:=by simp [h1]
    have hv:=tr ps sf
    have CI:((ps.map (·.1)).map (cq u)).flatten=(ps.map fun q=>cq u q.1).flatten:=by rw [List.map_map];rfl
    have:=VD.sl (M:=mV W) u.size false ((ps.map (·.1)).map (cq u)) (some (b,off)) cap (ps.map (·.2)).flatten (by
     intro e' Uj
     obtain ⟨x,_,rfl⟩:=List.mem_map.1 Uj
     exact de u x) (by rw [hlen];exact hl) (fun h=>by cases h) (fun h=>by cases h) hm (by rw [CI];exact hv.1) (fun p j x hp hj=>by
     cases hp
     refine tq (M:=mV W) (b:=b) (sz:=u.size) ps off (fun i q hq=>?_) j x hj
     obtain ⟨k1,k2,_⟩:=h2 i q hq
     refine ⟨by rw [←k2.1,de],fun k x hk=>?_⟩
     refine AK ?_ (k2.S_ x (zG hk))
     have wR:=yw k1 k x hk
     rw [he] at wR
     simpa [Addr.add_lit] using wR) (fun j c x e1 e2=>hv.2 j c x (by rw [←CI];exact e1) e2)
    rw [hlen] at this
    exact this
   ·show (ps.map (·.1)).length≤maxLen
    simp [h1];omega
   ·have og:x∈ps.map (·.1):=og
    obtain ⟨q,hq,rfl⟩:=List.mem_map.1 og
    obtain ⟨i,hi⟩:=List.getElem?_of_mem hq
    exact (h2 i q hi).2.2
inductive JX (P:Program) (W:World):List Field→Nat→Ty→Prop
 | one {fd:Field} {off:Nat} {a:Ty} (h:CO P W fd.type a) (ho:fd.offset=off) (hs:P.cellsOf fd.type=a.size):JX P W [fd] off a
 | cons {fd:Field} {fs:List Field} {off:Nat} {a b:Ty} (h:CO P W fd.type a) (ho:fd.offset=off) (hs:P.cellsOf fd.type=a.size) (k:JX P W fs (off+a.size) b):JX P W (fd::fs) off (.pair a b)
theorem JX.read {H:Type} {enc:TypeId×Value→H} {n:Nat} {cs:List Value} {fs:List Field} {off:Nat} {u:Ty} (h:JX P W fs off u):cs.length=off+u.size →
  (∀fd∈fs,∃x,DataW.trod enc P W 0 (fun _=>true) true n fd.type ((cs.drop fd.offset).take (P.cellsOf fd.type))=some x)→∃a:u.T,jL (mV W) (cq u a) (cs.drop off)∧yM u a:=by
 induction h with
 | one h ho hs=>
  intro hl hx
  obtain ⟨x,Tx⟩:=hx _ (zV ..)
  obtain ⟨a,a1,a2⟩:=h H enc n _ x Tx
  refine ⟨a,?_,a2⟩
  rw [ho,hs,za (by simp;omega)] at a1
  exact a1
 | cons h ho hs k ih=>
  rename_i fd fs off a b
  intro hl hx
  have hl:cs.length=off+(a.size+b.size):=hl
  obtain ⟨x,Tx⟩:=hx fd (zV ..)
  obtain ⟨y,a1,a2⟩:=h H enc n _ x Tx
  obtain ⟨z,b1,b2⟩:=ih (by omega) (fun fd' hm=>hx fd' (zT _ hm))
  refine ⟨(y,z),?_,a2,b2⟩
  rw [ho,hs] at a1
  refine jL.cut (ds:=cq a y) (es:=cq b z) a.size a1 ?_
  rw [List.drop_drop];exact b1
theorem mQ {t:TypeId} {fs:Array Field} {u:Ty} (ht:P.underlying t=some (.struct fs)) (hl:P.cellsOf t=u.size) (h:JX P W fs.toList 0 u):CO P W t u:=by
 intro H enc n cs x hx
 obtain ⟨xs,m,_,_,oB,hxl,hf⟩:=DataW.trod_struct ht hx
 obtain ⟨a,d1,d2⟩:=h.read (H:=H) (enc:=enc) (n:=m) (cs:=cs) (by rw [oB,hl,Nat.zero_add]) (fun fd hm=>by
  obtain ⟨i,hi⟩:=List.getElem?_of_mem hm
  have JR:fs[i]?=some fd:=by simpa using hi
  have h1:=hf i fd JR
  have fp:i<fs.size:=(Array.getElem?_eq_some_iff.1 JR).1
  exact ⟨xs[i]'(by omega), by rw [h1]; exact zD (by omega)⟩)
 rw [List.drop_zero] at d1
 exact ⟨a,d1,d2⟩
def Ee (W:World):G:=⟨fun _=>none,mV W,fun _=>none⟩
theorem Inv.start {S:Hp} (hS:∀o,S.ob o=none):Inv (Ee W) S W where
 cells:=fun o cs h=>by rw [hS] at h;cases h
 cl:=fun o x h=>by rw [hS] at h;cases h
 fresh:=fun _ _=>rfl
 lt:=fun o b s h=>by cases h
 inj:=fun o o' x x' b s s' h=>by rw [hS] at h;cases h
 mem:=fun b i x h=>by
  have h:(W.cell? ⟨b,i,none⟩).filter (·.oneCell')=some x:=h
  rw [Option.filter_eq_some_iff] at h
  exact yy h.1
 kh:=fun o b s i x h=>by rw [hS] at h;cases h
 lp:=fun b l h=>by cases h
theorem HF {t:TypeId} {u:Ty} {H:Type} {enc:TypeId×Value→H} {v:Value} {dd:DataW H} {p:List MemPlace} (hr:CO P W t u) (hd:u.data=true) (hc:v.cells.toList=[v]) (h:DataW.Trod enc P W 0 (fun _=>true) true t v dd p) :
  ∃a:u.T,V (Ee W) (bM false u a) v∧yM u a:=by
 obtain ⟨fuel,hf⟩:=h
 rw [hc] at hf
 obtain ⟨a,h1,h2⟩:=hr H enc fuel _ _ hf
 have h3:=jL.cells (g:=Ee W) u a _ hd h1
 refine ⟨a,?_,h2⟩
 show V (Ee W) (match aA u a with | [c]=>c | _=>.b8) v
 obtain ⟨hl,h4⟩:=h3
 match he:aA u a with
 | [c]=>exact (h4 0 c v (by rw [he];rfl) rfl).1
 | []=>exact .b8 _
 | _::_::_=>exact .b8 _
theorem C9 {t:TypeId} {u:Ty} {H:Type} {enc:TypeId×Value→H} {vs:Array Value} {dd:DataW H} {p:List MemPlace} (hr:CO P W t u) (hd:u.data=true) (h:DataW.Trod enc P W 0 (fun _=>true) true t (.agg vs) dd p) :
  ∃a:u.T,V (Ee W) (bM true u a) (.agg vs)∧yM u a:=by
 obtain ⟨fuel,hf⟩:=h
 obtain ⟨a,h1,h2⟩:=hr H enc fuel _ _ hf
 have h3:=jL.cells (g:=Ee W) u a _ hd h1
 have h3:Vs (Ee W) (aA u a) vs.toList:=by simpa [Value.cells] using h3
 exact ⟨a,by have:=h3.agg;simpa [bM] using this,h2⟩
def Wm:(k:RK)→k.T
 | .box t=>([]:List t.T)
 | .row t=>([]:List (Option (List t.T)))
 | .map _ tk _ tv=>([]:List (List (tk.T×tv.T)))
def ym:(l:List (Nat×RK))→qg l
 | []=>()
 | p::l=>(Wm p.2,ym l)
theorem z6:∀(k:RK) (j:Nat),cU k (Wm k) j=none
 | .box _,_=>rfl
 | .row _,_=>rfl
 | .map _ _ _ _,_=>rfl
theorem oY:∀(l:List (Nat×RK)) (r:Nat) (x:Rg),bl (cH l (ym l)) r=some x→∀j,cU x.k x.c j=none
 | [],r,x,h,j=>by cases h
 | p::l,r,x,h,j=>by
  have h:(bif Nat.beq p.1 r then some (⟨p.1,p.2,Wm p.2⟩:Rg) else bl (cH l (ym l)) r)=some x:=h
  cases hp:Nat.beq p.1 r with
  | true=>rw [hp] at h;cases h;exact z6 p.2 j
  | false=>rw [hp] at h;exact oY l r x h j
theorem Ed (rl wl:List (Nat×RK)) (o:Nat):(hp (h0 rl wl (ym rl) (ym wl))).ob o=none:=by
 show (if o<cb then et .nil o else cV (cH wl (ym wl)++cH rl (ym rl)) o)=none
 split
 ·unfold et;rw [Tr.get_nil]
 ·unfold cV
  rw [fQ]
  cases h1:bl (cH wl (ym wl)) (kN o) with
  | some x=>exact oY wl _ x h1 _
  | none=>
   simp only
   cases h2:bl (cH rl (ym rl)) (kN o) with
   | some x=>exact oY rl _ x h2 _
   | none=>rfl
theorem AS {f:FuncId} {sg:cF} {F:Plain sg} (h:bt P f sg F) (hrs:sg.rs=[(false,.bool)]) (x:js sg.ps) {y:js sg.rs} {d':qg sg.wg} (hF:F x (ym sg.rg) (ym sg.wg)=some (y,d')) (hy:tu sg.rs y = .v (.bool true)) {vs:List Value}
  (hl:(lr sg.ps x).length=vs.length) (hv:∀(i:Nat) (p:A) (v:Value),(lr sg.ps x)[i]?=some p→vs[i]?=some v→V (Ee W) p v) :
  Calls P f vs.toArray W fun e W'=>e = .returned (.bool true)∧Go.World.Since W.heap.size W W':=by
 obtain ⟨t,aQ,lk,hp⟩:=h.pc x _ _ y d' hF
 refine (hp (Ee W) W vs (.start (Ed _ _)) hl hv).mono ?_
 rintro e W' ⟨v,g',rfl,h1,_,h3⟩
 rw [hy] at h1
 cases h1
 exact ⟨rfl,h3.os,h3.tape,h3.output,h3.size,fun k hk=>h3.frame k hk (by rintro ⟨o,s,x,_,e⟩;cases e)⟩
end
end
end Go.Bm
namespace Go.Proofs.YtfffmmahegdfiaaGreat
open Go.Bm Go.ny
theorem oP (c:qa×(List (List nz)×List (List n9))) (a1:Int)
  (hc:yM (.pair (.pair (.int .i64) (.pair (.int .i64) (.pair (.int .i64) (.int .i64)))) (.pair (.aH (.aH (.pair (.int .u8) (.pair (.int .i64) (.int .i64))))) (.aH (.aH (.pair (.int .u8) (.pair (.int .u8) (.pair (.int .u8) (.pair (.int .u8) (.pair (.int .i64) (.pair (.int .i64) (.int .i64)))))))))))  c)
  (hl:yM (.int .u8) a1):∃d,F6 (c,a1,()) (ym _) (ym _)=some ((true,()),d):=by
 have u8:∀x:Int,yM (.int .u8) x→0≤x∧x≤255:=fun x h=>⟨h.1,by have h2:=h.2;first | omega | exact h2 | (have h3:x<256:=h2;omega)⟩
 have oA:∀x∈c.2.1,∀o∈x,0≤o.1∧o.1≤255:=fun x hx o ho=>u8 _ ((hc.2.1.2 x hx).2 o ho).1
 have tZ:∀x∈c.2.2,n6 x:=fun x hx o ho=>have h:=(hc.2.2.2 x hx).2 o ho;⟨h.2.1.1,h.2.2.1.1,h.2.2.2.1.1⟩
 obtain ⟨⟨⟨b,u⟩,d⟩,h,hr⟩:=tb zh c a1 oA tZ (u8 _ hl)
 have hr:b=true:=hr
 subst hr
 exact ⟨d,h⟩
end Go.Proofs.YtfffmmahegdfiaaGreat