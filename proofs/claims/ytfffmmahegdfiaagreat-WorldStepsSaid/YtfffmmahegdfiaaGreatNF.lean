/- How many micro-steps calls take: the given statement -/
import Derived.Deep.Slices
import Derived.WideShapes
import Derived.ChangeArms
import Derived.Deep.OwnRows
import Derived.WideKeyArgs
import Derived.OpenShut
import Derived.Carry
import Derived.ProofKit
import Derived.Test.YtfffmmahegdfiaaGreatNE
set_option maxHeartbeats 2000000
noncomputable section
set_option linter.unusedVariables false
set_option linter.unusedSimpArgs false
namespace Go.Bm
section
open Go.RowKit Go.ChangeShapes Go.WideShapes Go.Deep
def oj (W:World):Mem:=fun b o=>(W.cell? ⟨b,o,none⟩).filter (·.oneCell')
theorem C0 {W:World} {b o:Nat} {x:Value} (h:W.cell? ⟨b,o,none⟩=some x) (h1:x.oneCell'=true):oj W b o=some x:=by simp [oj,h,h1]
theorem Bo {W:World} {b o:Nat} {x:Value} (h:W.cell? ⟨b,o,none⟩=some x):∃cur ty fz,W.heap[b]?=some (.cells cur ty fz)∧cur[o]?=some x:=by
 unfold World.cell? at h
 split at h
 ·rename_i c ty fz hb
  simp at h
  exact ⟨c,ty,fz,hb,h⟩
 ·cases h
def inR (k:IntKind) (a:Int):Prop:=k.min≤a∧a≤k.max
def CQ:(t:Ty)→t.T→Prop
 | .int k,a=>inR k a
 | .bool,_=>True
 | .unit,_=>True
 | .pair a b,x=>CQ a x.1∧CQ b x.2
 | .arr n t,l=>List.length (α:=t.T) l=n∧∀x:t.T,List.Mem (α:=t.T) x l→CQ t x
 | .aJ t,l=>List.length (α:=t.T) l≤maxLen∧∀x:t.T,List.Mem (α:=t.T) x l→CQ t x
 | _,_=>False
def Fm (P:Program) (W:World) (t:TypeId) (u:Ty):Prop:=
 ∀(H:Type) (enc:TypeId×Value→H) (n:Nat) (cs:List Value) (x:DataW H×List MemPlace),DataW.trod enc P W 0 (fun _=>true) true n t cs=some x→∃a:u.T,kG (oj W) (cY u a) cs∧CQ u a
theorem sF {α:Type} {Q:Nat→α→Prop}:∀n:Nat,(∀i,i<n→∃x,Q i x)→∃xs:List α,xs.length=n∧∀(i:Nat) (x:α),xs[i]?=some x→Q i x
 | 0,_=>⟨[],rfl,fun i x h=>by simp at h⟩
 | n+1,h=>by
  obtain ⟨xs,h1,h2⟩:=sF n (fun i hi=>h i (by omega))
  obtain ⟨x,hx⟩:=h n (by omega)
  refine ⟨xs++[x],by simp [h1],fun i y hy=>?_⟩
  by_cases hi:i<xs.length
  ·rw [zK hi] at hy;exact h2 i y hy
  ·rw [zJ (by omega)] at hy
   have:=(zB.1 hy).1
   have e:i-xs.length=0:=by simp at this;omega
   rw [e] at hy
   simp at hy
   subst hy
   rw [show i=n by omega];exact hx
theorem Bl {W:World} {base n:Nat} {a:Addr} {cs:List Value} (h:W.cells? base a n=some cs) (k:Nat) (x:Value) (hk:cs[k]?=some x):W.cell? (a.add k)=some x:=by
 unfold World.cells? at h
 split at h
 ·have hlen:=mapM_some_length h
  have dD:=(zB.1 hk).1
  rw [List.length_range] at hlen
  rw [←hk]
  exact mapM_some_get h k k (by rw [List.getElem?_range (by omega)])
 ·cases h
theorem u9 {α:Type} {M:Mem} {f:α→List D}:∀ps:List (α×List Value),(∀q∈ps,kG M (f q.1) q.2)→kG M (ps.map fun q=>f q.1).flatten (ps.map (·.2)).flatten
 | [],_=>⟨rfl,by simp⟩
 | q::ps,h=>by
  rw [List.map_cons,List.map_cons,List.flatten_cons,List.flatten_cons]
  exact (h q (zV ..)).append (u9 ps (fun r hr=>h r (zT _ hr)))
theorem u0 {α:Type} {M:Mem} {b sz:Nat}:∀(ps:List (α×List Value)) (off:Nat),(∀(i:Nat) (q:α×List Value),ps[i]?=some q→q.2.length=sz∧∀(k:Nat) (x:Value),q.2[k]?=some x→M b (off+i*sz+k)=some x) →
  ∀(j:Nat) (x:Value),(ps.map (·.2)).flatten[j]?=some x→M b (off+j)=some x
 | [],_,_,j,x,h=>by simp at h
 | q::ps,off,h,j,x,hj=>by
  obtain ⟨h1,h2⟩:=h 0 q rfl
  rw [List.map_cons,List.flatten_cons] at hj
  by_cases dD:j<q.2.length
  ·rw [zK dD] at hj
   simpa using h2 j x hj
  ·rw [zJ (by omega)] at hj
   have:=u0 ps (off+sz) (fun i r hr=>by
    obtain ⟨k1,k2⟩:=h (i+1) r (by simpa using hr)
    refine ⟨k1,fun k x hk=>?_⟩
    have:=k2 k x hk
    rwa [show off+sz+i*sz+k=off+(i+1)*sz+k by rw [Nat.add_mul];omega]) _ x hj
   rwa [show off+sz+(j-q.2.length)=off+j by omega] at this
theorem kG.mX {M:Mem} {d:D} {v:Value} (h:VD M d v):kG M [d] [v]:=⟨rfl,fun j c x k1 k2=>by
 cases j with
 | zero=>simp at k1 k2;subst k1 k2;exact h
 | succ j=>simp at k1⟩
theorem kG.cut {M:Mem} {ds es:List D} {cs:List Value} (n:Nat) (h1:kG M ds (cs.take n)) (h2:kG M es (cs.drop n)):kG M (ds++es) cs:=by
 have:=h1.append h2
 rwa [zP] at this
theorem kG.V8 {M:Mem} {ds:List D} {vs:List Value} (h:kG M ds vs):∀x∈vs,x.oneCell'=true:=fun x hx=>by
 obtain ⟨j,hj⟩:=List.getElem?_of_mem hx
 have hl:=(zB.1 hj).1
 exact (h.2 j _ x (zD (by rw [h.1];exact hl)) hj).one
section
variable {P:Program} {W:World}
theorem jS {t:TypeId} {k:IntKind} (ht:P.underlying t=some (.int k)):Fm P W t (.int k):=by
 intro H enc n cs x h
 obtain ⟨a,rfl,_,hw⟩:=DataW.trod_int ht h
 refine ⟨a,.mX (.v _ rfl),?_⟩
 have hw:(decide (k.min≤a) && decide (a≤k.max))=true:=hw
 rw [zC] at hw
 exact ⟨of_decide_eq_true hw.1,of_decide_eq_true hw.2⟩
theorem vh {t e:TypeId} {u:Ty} (ht:P.underlying t=some (.slice e)) (he:P.cellsOf e=u.size) (h0:0<u.size) (h:Fm P W e u):Fm P W t (.aJ u):=by
 intro H enc n cs x hx
 rcases open_slice ht hx with ⟨rfl,_⟩ | ⟨a,len,cap,m,n',D',Pl,rfl,hb,hl,hm,hmm,_,K4⟩
 ·exact ⟨([]:List u.T),.mX (.tn u.size false none),Nat.zero_le _,fun x hx=>by cases hx⟩
 ·have KY:m=cap:=by simpa using hmm
  by_cases hc:cap=0
  ·subst hc
   have:len=0:=by omega
   subst this
   exact ⟨([]:List u.T),.mX (.tn u.size false _),Nat.zero_le _,fun x hx=>by cases hx⟩
  ·obtain ⟨b,off,sp⟩:=a
   have Uu:sp=none:=by
    obtain ⟨hH,k1,_⟩:=K4 0 (by omega)
    obtain ⟨_,hlen,yT⟩:=World.cells?_some k1
    have g0:=yT 0 (by omega)
    obtain ⟨c0,Ff⟩:∃c0,hH[0]?=some c0:=by
     cases hH with
     | nil=>simp at hlen;omega
     | cons c _=>exact ⟨c,rfl⟩
    rw [Ff] at g0
    simpa [Addr.add] using World.cell?_spot g0
   subst Uu
   obtain ⟨ps,h1,h2⟩:=sF (Q:=fun i (q:u.T×List Value)=>W.cells? 0 ((⟨b,off,none⟩:Addr).add (i*P.cellsOf e)) (P.cellsOf e)=some q.2∧kG (oj W) (cY u q.1) q.2∧CQ u q.1) len (fun i hi=>by
    obtain ⟨hH,k1,k2⟩:=K4 i (by omega)
    obtain ⟨x,k3,k4⟩:=h H enc n' hH _ k2
    exact ⟨(x,hH),k1,k3,k4⟩)
   have AV:∀q∈ps,kG (oj W) (cY u q.1) q.2:=fun q hq=>by
    obtain ⟨i,hi⟩:=List.getElem?_of_mem hq
    exact (h2 i q hi).2.1
   refine ⟨ps.map (·.1),.mX ?_,?_,fun x nQ=>?_⟩
   ·have hlen:((ps.map (·.1)).map (cY u)).length=len:=by simp [h1]
    have hv:=u9 ps AV
    have E_:((ps.map (·.1)).map (cY u)).flatten=(ps.map fun q=>cY u q.1).flatten:=by rw [List.map_map];rfl
    have:=VD.sl (M:=oj W) u.size false ((ps.map (·.1)).map (cY u)) (some (b,off)) cap (ps.map (·.2)).flatten (by
     intro e' W_
     obtain ⟨x,_,rfl⟩:=List.mem_map.1 W_
     exact dY u x) (by rw [hlen];exact hl) (fun h=>by cases h) (fun h=>by cases h) hm (by rw [E_];exact hv.1) (fun p j x hp hj=>by
     cases hp
     refine u0 (M:=oj W) (b:=b) (sz:=u.size) ps off (fun i q hq=>?_) j x hj
     obtain ⟨k1,k2,_⟩:=h2 i q hq
     refine ⟨by rw [←k2.1,dY],fun k x hk=>?_⟩
     refine C0 ?_ (k2.V8 x (zG hk))
     have yT:=Bl k1 k x hk
     rw [he] at yT
     simpa [Addr.add_lit] using yT) (fun j c x e1 e2=>hv.2 j c x (by rw [←E_];exact e1) e2)
    rw [hlen] at this
    exact this
   ·show (ps.map (·.1)).length≤maxLen
    simp [h1];omega
   ·have nQ:x∈ps.map (·.1):=nQ
    obtain ⟨q,hq,rfl⟩:=List.mem_map.1 nQ
    obtain ⟨i,hi⟩:=List.getElem?_of_mem hq
    exact (h2 i q hi).2.2
inductive Mw (P:Program) (W:World):List Field→Nat→Ty→Prop
 | one {fd:Field} {off:Nat} {a:Ty} (h:Fm P W fd.type a) (ho:fd.offset=off) (hs:P.cellsOf fd.type=a.size):Mw P W [fd] off a
 | cons {fd:Field} {fs:List Field} {off:Nat} {a b:Ty} (h:Fm P W fd.type a) (ho:fd.offset=off) (hs:P.cellsOf fd.type=a.size) (k:Mw P W fs (off+a.size) b):Mw P W (fd::fs) off (.pair a b)
theorem Mw.read {H:Type} {enc:TypeId×Value→H} {n:Nat} {cs:List Value} {fs:List Field} {off:Nat} {u:Ty} (h:Mw P W fs off u):cs.length=off+u.size →
  (∀fd∈fs,∃x,DataW.trod enc P W 0 (fun _=>true) true n fd.type ((cs.drop fd.offset).take (P.cellsOf fd.type))=some x)→∃a:u.T,kG (oj W) (cY u a) (cs.drop off)∧CQ u a:=by
 induction h with
 | one h ho hs=>
  intro hl hx
  obtain ⟨x,KO⟩:=hx _ (zV ..)
  obtain ⟨a,a1,a2⟩:=h H enc n _ x KO
  refine ⟨a,?_,a2⟩
  rw [ho,hs,za (by simp;omega)] at a1
  exact a1
 | cons h ho hs k ih=>
  rename_i fd fs off a b
  intro hl hx
  have hl:cs.length=off+(a.size+b.size):=hl
  obtain ⟨x,KO⟩:=hx fd (zV ..)
  obtain ⟨y,a1,a2⟩:=h H enc n _ x KO
  obtain ⟨z,b1,b2⟩:=ih (by omega) (fun fd' hm=>hx fd' (zT _ hm))
  refine ⟨(y,z),?_,a2,b2⟩
  rw [ho,hs] at a1
  refine kG.cut (ds:=cY a y) (es:=cY b z) a.size a1 ?_
  rw [List.drop_drop];exact b1
theorem oe {t:TypeId} {fs:Array Field} {u:Ty} (ht:P.underlying t=some (.struct fs)) (hl:P.cellsOf t=u.size) (h:Mw P W fs.toList 0 u):Fm P W t u:=by
 intro H enc n cs x hx
 obtain ⟨xs,m,_,_,pV,hxl,hf⟩:=DataW.trod_struct ht hx
 obtain ⟨a,d1,d2⟩:=h.read (H:=H) (enc:=enc) (n:=m) (cs:=cs) (by rw [pV,hl,Nat.zero_add]) (fun fd hm=>by
  obtain ⟨i,hi⟩:=List.getElem?_of_mem hm
  have Jy:fs[i]?=some fd:=by simpa using hi
  have h1:=hf i fd Jy
  have dD:i<fs.size:=(Array.getElem?_eq_some_iff.1 Jy).1
  exact ⟨xs[i]'(by omega), by rw [h1]; exact zD (by omega)⟩)
 rw [List.drop_zero] at d1
 exact ⟨a,d1,d2⟩
def G1 (W:World):G:=⟨fun _=>none,oj W,fun _=>none⟩
theorem Inv.start {S:Hp} (hS:∀o,S.ob o=none):Inv (G1 W) S W where
 cells:=fun o cs h=>by rw [hS] at h;cases h
 cN:=fun o x h=>by rw [hS] at h;cases h
 fresh:=fun _ _=>rfl
 lt:=fun o b s h=>by cases h
 inj:=fun o o' x x' b s s' h=>by rw [hS] at h;cases h
 mem:=fun b i x h=>by
  have h:(W.cell? ⟨b,i,none⟩).filter (·.oneCell')=some x:=h
  rw [Option.filter_eq_some_iff] at h
  exact Bo h.1
 lr:=fun o b s i x h=>by rw [hS] at h;cases h
 lp:=fun b l h=>by cases h
theorem Kb {t:TypeId} {u:Ty} {H:Type} {enc:TypeId×Value→H} {v:Value} {dd:DataW H} {p:List MemPlace} (hr:Fm P W t u) (hd:u.data=true) (hc:v.cells.toList=[v]) (h:DataW.Trod enc P W 0 (fun _=>true) true t v dd p) :
  ∃a:u.T,V (G1 W) (bY false u a) v∧CQ u a:=by
 obtain ⟨fuel,hf⟩:=h
 rw [hc] at hf
 obtain ⟨a,h1,h2⟩:=hr H enc fuel _ _ hf
 have h3:=kG.cells (g:=G1 W) u a _ hd h1
 refine ⟨a,?_,h2⟩
 show V (G1 W) (match aA u a with | [c]=>c | _=>.cI) v
 obtain ⟨hl,h4⟩:=h3
 match he:aA u a with
 | [c]=>exact (h4 0 c v (by rw [he];rfl) rfl).1
 | []=>exact .cI _
 | _::_::_=>exact .cI _
theorem FI {t:TypeId} {u:Ty} {H:Type} {enc:TypeId×Value→H} {vs:Array Value} {dd:DataW H} {p:List MemPlace} (hr:Fm P W t u) (hd:u.data=true) (h:DataW.Trod enc P W 0 (fun _=>true) true t (.agg vs) dd p) :
  ∃a:u.T,V (G1 W) (bY true u a) (.agg vs)∧CQ u a:=by
 obtain ⟨fuel,hf⟩:=h
 obtain ⟨a,h1,h2⟩:=hr H enc fuel _ _ hf
 have h3:=kG.cells (g:=G1 W) u a _ hd h1
 have h3:Vs (G1 W) (aA u a) vs.toList:=by simpa [Value.cells] using h3
 exact ⟨a,by have:=h3.agg;simpa [bY] using this,h2⟩
def YW:(k:RK)→k.T
 | .box t=>([]:List t.T)
 | .row t=>([]:List (Option (List t.T)))
 | .map _ tk _ tv=>([]:List (List (tk.T×tv.T)))
def Bb:(l:List (Nat×RK))→rO l
 | []=>()
 | p::l=>(YW p.2,Bb l)
theorem Cm:∀(k:RK) (j:Nat),dP k (YW k) j=none
 | .box _,_=>rfl
 | .row _,_=>rfl
 | .map _ _ _ _,_=>rfl
theorem qF:∀(l:List (Nat×RK)) (r:Nat) (x:Rg),bu (dw l (Bb l)) r=some x→∀j,dP x.k x.c j=none
 | [],r,x,h,j=>by cases h
 | p::l,r,x,h,j=>by
  have h:(bif Nat.beq p.1 r then some (⟨p.1,p.2,YW p.2⟩:Rg) else bu (dw l (Bb l)) r)=some x:=h
  cases hp:Nat.beq p.1 r with
  | true=>rw [hp] at h;cases h;exact Cm p.2 j
  | false=>rw [hp] at h;exact qF l r x h j
theorem G0 (rl wl:List (Nat×RK)) (o:Nat):(hp (h0 rl wl (Bb rl) (Bb wl))).ob o=none:=by
 show (if o<cJ then fG .nil o else dQ (dw wl (Bb wl)++dw rl (Bb rl)) o)=none
 split
 ·unfold fG;rw [Tr.get_nil]
 ·unfold dQ
  rw [gR]
  cases h1:bu (dw wl (Bb wl)) (lT o) with
  | some x=>exact qF wl _ x h1 _
  | none=>
   simp only
   cases h2:bu (dw rl (Bb rl)) (lT o) with
   | some x=>exact qF rl _ x h2 _
   | none=>rfl
theorem C6 {f:FuncId} {sg:dO} {F:Plain sg} (h:bH P f sg F) (hrs:sg.rs=[(false,.bool)]) (x:kb sg.ps) {y:kb sg.rs} {d':rO sg.wg} (hF:F x (Bb sg.rg) (Bb sg.wg)=some (y,d')) (hy:u_ sg.rs y = .v (.bool true)) {vs:List Value}
  (hl:(mB sg.ps x).length=vs.length) (hv:∀(i:Nat) (p:A) (v:Value),(mB sg.ps x)[i]?=some p→vs[i]?=some v→V (G1 W) p v) :
  Calls P f vs.toArray W fun e W'=>e = .returned (.bool true)∧Go.World.Since W.heap.size W W':=by
 obtain ⟨t,aQ,lk,hp⟩:=h.pc x _ _ y d' hF
 refine (hp (G1 W) W vs (.start (G0 _ _)) hl hv).mono ?_
 rintro e W' ⟨v,g',rfl,h1,_,h3⟩
 rw [hy] at h1
 cases h1
 exact ⟨rfl,h3.os,h3.tape,h3.output,h3.size,fun k hk=>h3.frame k hk (by rintro ⟨o,s,x,_,e⟩;cases e)⟩
end
end
end Go.Bm
namespace Go.Proofs.YtfffmmahegdfiaaGreat
open Go.Bm Go.oX
theorem oZ (c:mE×(List (List oQ)×List (List lY))) (l:List Int)
  (hc:CQ (.pair (.pair (.int .i64) (.pair (.int .i64) (.pair (.int .i64) (.int .i64)))) (.pair (.aJ (.aJ (.pair (.int .u8) (.pair (.int .i64) (.int .i64))))) (.aJ (.aJ (.pair (.int .u8) (.pair (.int .u8) (.pair (.int .u8) (.pair (.int .u8) (.pair (.int .i64) (.pair (.int .i64) (.int .i64)))))))))))  c)
  (hl:CQ (.aJ (.int .u8)) l):∃d,F3 (c,l,()) (Bb _) (Bb _)=some ((true,()),d):=by
 have mf:∀x∈c.2.1,∀o∈x,0≤o.1:=fun x hx o ho=>(((hc.2.1.2 x hx).2 o ho).1).1
 have vR:∀x∈c.2.2,pD x:=fun x hx o ho=>have h:=(hc.2.2.2 x hx).2 o ho;⟨h.2.1.1,h.2.2.1.1,h.2.2.2.1.1⟩
 have hb:∀x∈l,0≤x∧x≤255:=fun x hx=>have h:=hl.2 x hx;⟨h.1,by have:=h.2;first | omega | exact this | (have h3:x<256:=this;omega)⟩
 obtain ⟨⟨⟨b,u⟩,d⟩,h,hr⟩:=rP B7 c l mf vR hb
 have hr:b=true:=hr
 subst hr
 exact ⟨d,h⟩
open Go.Bm
open Go.ChangeShapes Go.WideShapes Go.ChangeAt Go.RowKit
theorem Tryz.own:ownKnob Tryz.prog.godebug=none:=by kernel_rfl
theorem Tryz.laidOut:laidOutB Tryz.prog=true:=by kernel_rfl
theorem qv (W:World):Fm Tryz.prog W 27 (.pair (.pair (.int .i64) (.pair (.int .i64) (.pair (.int .i64) (.int .i64)))) (.pair (.aJ (.aJ (.pair (.int .u8) (.pair (.int .i64) (.int .i64))))) (.aJ (.aJ (.pair (.int .u8) (.pair (.int .u8) (.pair (.int .u8) (.pair (.int .u8) (.pair (.int .i64) (.pair (.int .i64) (.int .i64))))))))))):=(oe Tryz.underlying27 (by kernel_rfl) (.cons (oe Tryz.underlying23 (by kernel_rfl) (.cons (jS Tryz.underlying3) rfl (by kernel_rfl) (.cons (jS Tryz.underlying3) rfl (by kernel_rfl) (.cons (jS Tryz.underlying3) rfl (by kernel_rfl) (.one (jS Tryz.underlying3) rfl (by kernel_rfl)))))) rfl (by kernel_rfl) (.cons (vh Tryz.underlying24 (by kernel_rfl) (by decide) (vh Tryz.underlying59 (by kernel_rfl) (by decide) (oe Tryz.underlying78 (by kernel_rfl) (.cons (jS Tryz.underlying5) rfl (by kernel_rfl) (.cons (jS Tryz.underlying3) rfl (by kernel_rfl) (.one (jS Tryz.underlying3) rfl (by kernel_rfl))))))) rfl (by kernel_rfl) (.one (vh Tryz.underlying25 (by kernel_rfl) (by decide) (vh Tryz.underlying49 (by kernel_rfl) (by decide) (oe Tryz.underlying42 (by kernel_rfl) (.cons (jS Tryz.underlying5) rfl (by kernel_rfl) (.cons (jS Tryz.underlying5) rfl (by kernel_rfl) (.cons (jS Tryz.underlying5) rfl (by kernel_rfl) (.cons (jS Tryz.underlying5) rfl (by kernel_rfl) (.cons (jS Tryz.underlying3) rfl (by kernel_rfl) (.cons (jS Tryz.underlying3) rfl (by kernel_rfl) (.one (jS Tryz.underlying3) rfl (by kernel_rfl))))))))))) rfl (by kernel_rfl)))))
theorem qu (W:World):Fm Tryz.prog W 28 (.aJ (.int .u8)):=(vh Tryz.underlying28 (by kernel_rfl) (by decide) (jS Tryz.underlying5))
set_option maxRecDepth 100000 in
theorem nU (os:Os) (started:os.Started) (H:Type) (enc:TypeId×Value→H) :
  ReturnsInHanded {} Tryz.checked os 3 .any (Rows.worldStepsSpec.pre6 enc Tryz.prog Tryz.f3 Rows.worldStepsRow.domain false) (Rows.worldStepsSpec.post enc Tryz.prog Tryz.f3 false true false false):=by
 refine returnsInHanded_of_change (C:=Tryz.checked) Tryz.own started (by kernel_rfl) Tryz.func3
  (ChangeSpec.witness6 (enc:=enc) (C:=Tryz.checked) false ⟨#[],#[.agg #[.int .i64 0,.int .i64 0,.int .i64 0,.int .i64 0,.slice none 0 0,.slice none 0 0],.slice none 0 0],[]⟩ 8 (by kernel_rfl) (by kernel_rfl) (by kernel_rfl) (by kernel_rfl)) ?_
 intro W base args ds gs before Jr hW aep _
 have qY:∀(j:Nat) t v,Tryz.f3.params[j]?=some t→args[j]?=some v→Value.okWide Tryz.prog W .any base t v:=Jr
 have Xk:=hW
 obtain ⟨p,q,UK,hV,rfl,hfz,hnd⟩:=hW
 have hA:DataW.TrodAll enc Tryz.prog W 0 (fun _=>true) true Tryz.f3.params.toList args.toList ds p:=UK
 rw [Tryz.params3] at hA qY
 obtain ⟨v0,v1,d0,d1,p0,p1,rfl,rfl,rfl,h0,h1⟩:=trodAll_two hA
 obtain ⟨rfl,rfl⟩:=trodVars_none hV
 clear UK Jr
 simp only [List.append_nil] at Xk
 obtain ⟨w0,rfl,_⟩:=okWide_struct Tryz.underlying27 (qY 0 27 v0 rfl rfl)
 obtain ⟨x0,k0,o0⟩:=FI (qv W) rfl h0
 have c1:v1.cells.toList=[v1]:=by obtain ⟨_,_,_,rfl⟩:=okWide_slice Tryz.underlying28 (qY 1 28 v1 rfl rfl);rfl
 obtain ⟨x1,k1,o1⟩:=Kb (qu W) rfl c1 h1
 have dD:∀x∈p0++p1,x.block<W.heap.size:=fun x hx=>Xk.lt x (by simpa using hx)
 obtain ⟨dd,hF⟩:=oZ x0 x1 o0 o1
 refine (C6 ct3 rfl (x0,x1,()) hF rfl (vs:=[.agg w0,v1]) rfl (fun i d v e1 e2=>?_)).mono fun e W' ⟨he,hs⟩=>?_
 ·match i with
  | 0=>cases e1;cases e2;exact k0
  | 1=>cases e1;cases e2;exact k1
  | i+2=>cases e1
 subst he
 have r0:DataW.Trod enc Tryz.prog W' 0 (fun b=>decide (b<W.heap.size)) true 27 (.agg w0) d0 p0:=
  WideElems.Trod_stays Tryz.laidOut (by kernel_rfl) (of_decide_eq_true (by kernel_rfl)) h0 (fun x hx=>hs.sameAt (dD x (by simp [hx]))) (fun x hx=>by simpa using dD x (by simp [hx]))
 have r1:DataW.Trod enc Tryz.prog W' 0 (fun b=>decide (b<W.heap.size)) true 28 (v1) d1 p1:=
  WideElems.Trod_stays Tryz.laidOut (by kernel_rfl) (of_decide_eq_true (by kernel_rfl)) h1 (fun x hx=>hs.sameAt (dD x (by simp [hx]))) (fun x hx=>by simpa using dD x (by simp [hx]))
 refine ⟨_,rfl,_,_,_,[],p0++p1,[],Xk,?_,?_,?_,hs.frame _,fun h=>by cases h⟩
 ·exact trodAll_mk1 (shut_bool Tryz.underlying4 true)
 ·exact trodAll_mk2 r0 r1
 ·exact rfl
theorem worldSteps_holds:Rows.WorldStepsSaid:=
 OpenClaim.holds_of_wide 3 Tryz.f3 rfl rfl rfl rfl rfl rfl rfl ⟨rfl,rfl,rfl,rfl,rfl⟩ rfl rfl rfl rfl rfl (by kernel_rfl) Tryz.func3 (by kernel_rfl)
  (of_decide_eq_true (by kernel_rfl)) (by unfold Func.isWrapper;first | (rw [if_pos (by decide +kernel)];kernel_rfl) | (rw [if_neg (by decide +kernel)];exact ⟨rfl,rfl⟩))
  (fun os started H enc _=>nU os started H enc)
end Go.Proofs.YtfffmmahegdfiaaGreat