/- Texts of one proof, put together: see each part. -/
import Derived.Shelf.Spec.SlicesGrow
import Derived.Shelf.RegionOpenPlain
import Derived.WalkKit
import Derived.Lib.Walk
import Derived.Lib.SliceRun
import Derived.KernelRfl
import Derived.Deep.Slices
import Derived.WideShapes
import Derived.ChangeArms
import Derived.Deep.OwnRows
import Derived.WideKeyArgs
import Derived.OpenShut
import Derived.Carry
import Derived.Conc.LoneSelect
import Derived.Test.YtklkjncibchelaaGreatProg
import Derived.Conc.EventLaws
import Derived.Test.YtklkjncibchelaaGreatQC
set_option maxHeartbeats 2000000
noncomputable section
set_option linter.unusedVariables false
set_option linter.unusedSimpArgs false
namespace Go.Proofs
open Go.Shelf
def Tryz.l3:Go.Shelf.Ren:=⟨fun | 4=>237 | n=>n,fun | 22=>41 | 25=>3 | 3=>3 | 4=>4 | 9=>9 | 20=>20 | 0=>0 | n=>n,fun | n=>n⟩
theorem Tryz.w_:Go.Proofs.Lays8.n4 Tryz.prog Tryz.l3 where
 mixed:=by kernel_rfl
 f4:=⟨Tryz.f237.name,by kernel_rfl,Tryz.func237.trans (congrArg some (by kernel_rfl))⟩
 t0:=Tryz.underlying0
 a0:=Tryz.isAgg0
 z0:=Tryz.sizeOf0
 v0:=Tryz.zeroValue0
 t3:=Tryz.underlying3
 a3:=Tryz.isAgg3
 z3:=Tryz.sizeOf3
 v3:=Tryz.zeroValue3
 t4:=Tryz.underlying4
 a4:=Tryz.isAgg4
 z4:=Tryz.sizeOf4
 v4:=Tryz.zeroValue4
 t9:=Tryz.underlying9
 a9:=Tryz.isAgg9
 z9:=Tryz.sizeOf9
 v9:=Tryz.zeroValue9
 t20:=Tryz.underlying20
 a20:=Tryz.isAgg20
 z20:=Tryz.sizeOf20
 v20:=Tryz.zeroValue20
 t22:=Tryz.underlying41
 a22:=Tryz.isAgg41
 z22:=Tryz.sizeOf41
 v22:=Tryz.zeroValue41
end Go.Proofs
namespace Go.Proofs.YtklkjncibchelaaGreat
open Go.Bm Go.Shelf
abbrev C0:Ty:=(.pair (.int .i64) (.pair (.pair (.int .u8) (.pair (.int .u8) (.pair (.int .u8) (.pair (.int .u8) (.pair (.int .i64) (.pair (.int .i64) (.int .i64))))))) (.pair (.int .i64) (.pair (.int .i64) (.pair (.int .i64) (.pair (.int .i64) (.pair (.int .i64) (.aF (.int .i64)))))))))
theorem Fy:∃i,Tryz.prog.info? (Tryz.l3.t 25)=some i∧i.zero=some (.int .i64 0)∧i.size=1∧i.bytes=8:=by
 obtain ⟨i,t1,t2,t3,t4,t5,t6⟩:=ZW.ti
 exact ⟨i,t1,t2,t3,t4⟩
theorem Cz:vF Tryz.prog 237 (.int .i64):=⟨⟨_,AP.bm,AP.name,by rw [AP.body];rfl⟩,fun n w hn=>by
 obtain ⟨i,h1,h2,h3,h4⟩:=Fy
 rcases Nat.eq_zero_or_pos n with rfl | h0
 ·exact (Any8.slices_Grow_room Tryz.w_ none 0 0 0 w (by omega) (by omega) (by omega) (by omega)).mono fun e w' h=>⟨_,h.1,.inl ⟨rfl,h.2⟩⟩
 ·refine (Any8.slices_Grow_grow Tryz.w_ i _ h1 h2 (by omega) none 0 0 n [] w (by omega) (by omega) (by rw [h4];omega) (by omega) (by simp) (fun _=>rfl) (fun a h=>by cases h)).mono fun e w' h=>⟨_,h.1,.inr ⟨_,_,_,rfl,h.2,?_,?_⟩⟩
  ·have:=grownCap_ge w (0+n) 0 (Tryz.l3.t 25)
   show _*1≤_
   simp only [Array.size_append,size_zeroCells,Value.cells]
   simp
   omega
  ·exact grownCap_le_maxLen w _ _ _ (by unfold maxLen;omega)⟩
section
set_option maxRecDepth 100000
set_option maxHeartbeats 1000000
open Go.RowKit Go.Lib
theorem Ext.LK {S:Hp} {g:G} {w:World} (ob:Obj):Ext S g w S g (w.alloc ob):=⟨.refl g,rfl,rfl,rfl,by rw [show (w.alloc ob).heap.size=w.heap.size+1 from Array.size_push _];omega,fun k hk _=>Below.heap_alloc w _ k hk,fun _ h=>.inl h,fun _ _ h=>.inl h,fun _ h=>h,fun _ _ _ h=>.inl h,fun _ _ h=>.inl h⟩
theorem q_ {P:Program} {ops:Array Oper} {o:Oper} {rest:List Oper} {a:Act} {w w':World} {v:Value} {Q:Exit→Act→World→Prop} (hg:o.guard=none) (h:(execOp a.eval o).run P w = .ok (.value v) w') (k:wpList P ops Q rest (a.put o.dst v) w'):wpList P ops Q (o::rest) a w:=by
 refine wpList_plain hg fun K hK=>?_
 unfold Oper.wp
 rw [h]
 exact hK _ _ k
theorem Oc (n c:Nat) (w:World):Calls Tryz.prog 36 #[.slice none n c] w fun e w'=>e = .returned (.slice none 0 0)∧w'=w:=by
 have Z9:∀(w:World) (a:Option Addr) (n c n' c':Nat),(binOp .eql 41 (.slice a n c) (.slice none n' c')).run Tryz.prog w = .ok (.bool a.isNone) w:=fun w a n c n' c'=>Lib.run_eql_slice_nil w _ _ a n c n' c' Hu.u
 go_enter Tryz.func36,Tryz.ntmps36
 go_wp2
 go_ret
 exact ⟨rfl,rfl⟩
theorem Jj (g:G) (S:Hp) (q:Nat) (hf:S.fr q) (l:List Int) (hl:l.length≤16777216) (w:World) (hI:Inv g S w) (a:Addr) (n c:Nat) (hv:∀w2,Inv g S w2→Given g w2 (.slice (some a) n c) 1 l.length (l.flatMap (aA (.int .i64)))):Calls Tryz.prog 36 #[.slice (some a) n c] w fun e w'=>∃v g',e = .returned v∧V g' (.tw (.loc q) 1) v∧Inv g' (S.new q (.cells (l.flatMap (aA (.int .i64))))) w'∧Ext S g w (S.new q (.cells (l.flatMap (aA (.int .i64))))) g' w':=by
 have Z9:∀(w:World) (a:Option Addr) (n c n' c':Nat),(binOp .eql 41 (.slice a n c) (.slice none n' c')).run Tryz.prog w = .ok (.bool a.isNone) w:=fun w a n c n' c'=>Lib.run_eql_slice_nil w _ _ a n c n' c' Hu.u
 have hw:Inv g S (w.alloc (.cells #[] 3)):=hI.world (by rw [show (w.alloc (.cells #[] 3)).heap.size=w.heap.size+1 from Array.size_push _];omega) (fun k hk=>Below.heap_alloc w _ k hk)
 have uZ:Given g (w.alloc (.cells #[] 3)) (.slice (some a) n c) 1 l.length (l.flatMap (aA (.int .i64))):=hv _ hw
 obtain ⟨v,g',w',eL,k1,k2,k3⟩:=ir (P:=Tryz.prog) (ty:=41) (some ⟨w.heap.size,0,none⟩) Hu.u ZW.ti hw uZ hf (by show _*8≤_;omega) (by unfold maxLen;omega)
 have k3:=(Ext.LK (S:=S) (g:=g) (w:=w) (.cells #[] 3)).trans k3
 clear uZ hw
 go_enter Tryz.func36,Tryz.ntmps36
 go_wp2_with (at_builtin;refine q_ (v:=v) (w':=w') rfl (by simp [execOp,resolve,invoke,Act.eval,builtin,eL]) ?_)
 go_ret
 exact ⟨v,g',rfl,k1,k2,k3⟩
theorem CO:pL Tryz.prog 36 (.int .i64):=⟨⟨_,I4.bm,I4.name,by rw [I4.body];rfl⟩,Oc,fun g S q hf l hl w hI a n c hv=>Jj g S q hf l hl w hI a n c hv⟩
theorem Gj (n c:Nat) (w:World):Calls Tryz.prog 35 #[.slice none n c] w fun e w'=>e = .returned (.slice none 0 0)∧w'=w:=by
 have Z9:∀(w:World) (a:Option Addr) (n c n' c':Nat),(binOp .eql 37 (.slice a n c) (.slice none n' c')).run Tryz.prog w = .ok (.bool a.isNone) w:=fun w a n c n' c'=>Lib.run_eql_slice_nil w _ _ a n c n' c' Hv.u
 go_enter Tryz.func35,Tryz.ntmps35
 go_wp2
 go_ret
 exact ⟨rfl,rfl⟩
theorem CR (g:G) (S:Hp) (q:Nat) (hf:S.fr q) (l:List C0.T) (hl:l.length≤16777216) (w:World) (hI:Inv g S w) (a:Addr) (n c:Nat) (hv:∀w2,Inv g S w2→Given g w2 (.slice (some a) n c) 14 l.length (l.flatMap (aA C0))):Calls Tryz.prog 35 #[.slice (some a) n c] w fun e w'=>∃v g',e = .returned v∧V g' (.tw (.loc q) 14) v∧Inv g' (S.new q (.cells (l.flatMap (aA C0)))) w'∧Ext S g w (S.new q (.cells (l.flatMap (aA C0)))) g' w':=by
 have Z9:∀(w:World) (a:Option Addr) (n c n' c':Nat),(binOp .eql 37 (.slice a n c) (.slice none n' c')).run Tryz.prog w = .ok (.bool a.isNone) w:=fun w a n c n' c'=>Lib.run_eql_slice_nil w _ _ a n c n' c' Hv.u
 have hw:Inv g S (w.alloc (.cells #[] 45)):=hI.world (by rw [show (w.alloc (.cells #[] 45)).heap.size=w.heap.size+1 from Array.size_push _];omega) (fun k hk=>Below.heap_alloc w _ k hk)
 have uZ:Given g (w.alloc (.cells #[] 45)) (.slice (some a) n c) 14 l.length (l.flatMap (aA C0)):=hv _ hw
 obtain ⟨v,g',w',eL,k1,k2,k3⟩:=ir (P:=Tryz.prog) (ty:=37) (some ⟨w.heap.size,0,none⟩) Hv.u Rx.ti hw uZ hf (by show _*104≤_;omega) (by unfold maxLen;omega)
 have k3:=(Ext.LK (S:=S) (g:=g) (w:=w) (.cells #[] 45)).trans k3
 clear uZ hw
 go_enter Tryz.func35,Tryz.ntmps35
 go_wp2_with (at_builtin;refine q_ (v:=v) (w':=w') rfl (by simp [execOp,resolve,invoke,Act.eval,builtin,eL]) ?_)
 go_ret
 exact ⟨v,g',rfl,k1,k2,k3⟩
theorem CP:pL Tryz.prog 35 C0:=⟨⟨_,I5.bm,I5.name,by rw [I5.body];rfl⟩,Gj,fun g S q hf l hl w hI a n c hv=>CR g S q hf l hl w hI a n c hv⟩
end
end Go.Proofs.YtklkjncibchelaaGreat
set_option linter.unusedVariables false
set_option linter.unusedSimpArgs false
namespace Go.Bm
section
open Go.RowKit Go.ChangeShapes Go.WideShapes Go.Deep
def o6 (W:World):Mem:=fun b o=>(W.cell? ⟨b,o,none⟩).filter (·.oneCell')
theorem EH {W:World} {b o:Nat} {x:Value} (h:W.cell? ⟨b,o,none⟩=some x) (h1:x.oneCell'=true):o6 W b o=some x:=by simp [o6,h,h1]
theorem CV {W:World} {b o:Nat} {x:Value} (h:W.cell? ⟨b,o,none⟩=some x):∃cur ty fz,W.heap[b]?=some (.cells cur ty fz)∧cur[o]?=some x:=by
 unfold World.cell? at h
 split at h
 ·rename_i c ty fz hb
  simp at h
  exact ⟨c,ty,fz,hb,h⟩
 ·cases h
def inR (k:IntKind) (a:Int):Prop:=k.min≤a∧a≤k.max
def C8:(t:Ty)→t.T→Prop
 | .int k,a=>inR k a
 | .bool,_=>True
 | .unit,_=>True
 | .pair a b,x=>C8 a x.1∧C8 b x.2
 | .arr n t,l=>List.length (α:=t.T) l=n∧∀x:t.T,List.Mem (α:=t.T) x l→C8 t x
 | .aF t,l=>List.length (α:=t.T) l≤maxLen∧∀x:t.T,List.Mem (α:=t.T) x l→C8 t x
 | _,_=>False
def GH (P:Program) (W:World) (t:TypeId) (u:Ty):Prop:=
 ∀(H:Type) (enc:TypeId×Value→H) (n:Nat) (cs:List Value) (x:DataW H×List MemPlace),DataW.trod enc P W 0 (fun _=>true) true n t cs=some x→∃a:u.T,lg (o6 W) (dh u a) cs∧C8 u a
theorem tD {α:Type} {Q:Nat→α→Prop}:∀n:Nat,(∀i,i<n→∃x,Q i x)→∃xs:List α,xs.length=n∧∀(i:Nat) (x:α),xs[i]?=some x→Q i x
 | 0,_=>⟨[],rfl,fun i x h=>by simp at h⟩
 | n+1,h=>by
  obtain ⟨xs,h1,h2⟩:=tD n (fun i hi=>h i (by omega))
  obtain ⟨x,hx⟩:=h n (by omega)
  refine ⟨xs++[x],by simp [h1],fun i y hy=>?_⟩
  by_cases hi:i<xs.length
  ·rw [zK hi] at hy;exact h2 i y hy
  ·rw [zJ (by omega)] at hy
   have:=(zB.1 hy).1
   have e:i-xs.length=0:=by simp at this;omega
   rw [e] at hy
   simp at hy
   subst hy
   rw [show i=n by omega];exact hx
theorem CT {W:World} {base n:Nat} {a:Addr} {cs:List Value} (h:W.cells? base a n=some cs) (k:Nat) (x:Value) (hk:cs[k]?=some x):W.cell? (a.add k)=some x:=by
 unfold World.cells? at h
 split at h
 ·have hlen:=mapM_some_length h
  have eO:=(zB.1 hk).1
  rw [List.length_range] at hlen
  rw [←hk]
  exact mapM_some_get h k k (by rw [List.getElem?_range (by omega)])
 ·cases h
theorem wb {α:Type} {M:Mem} {f:α→List D}:∀ps:List (α×List Value),(∀q∈ps,lg M (f q.1) q.2)→lg M (ps.map fun q=>f q.1).flatten (ps.map (·.2)).flatten
 | [],_=>⟨rfl,by simp⟩
 | q::ps,h=>by
  rw [List.map_cons,List.map_cons,List.flatten_cons,List.flatten_cons]
  exact (h q (zV ..)).append (wb ps (fun r hr=>h r (zT _ hr)))
theorem wa {α:Type} {M:Mem} {b sz:Nat}:∀(ps:List (α×List Value)) (off:Nat),(∀(i:Nat) (q:α×List Value),ps[i]?=some q→q.2.length=sz∧∀(k:Nat) (x:Value),q.2[k]?=some x→M b (off+i*sz+k)=some x) →
  ∀(j:Nat) (x:Value),(ps.map (·.2)).flatten[j]?=some x→M b (off+j)=some x
 | [],_,_,j,x,h=>by simp at h
 | q::ps,off,h,j,x,hj=>by
  obtain ⟨h1,h2⟩:=h 0 q rfl
  rw [List.map_cons,List.flatten_cons] at hj
  by_cases eO:j<q.2.length
  ·rw [zK eO] at hj
   simpa using h2 j x hj
  ·rw [zJ (by omega)] at hj
   have:=wa ps (off+sz) (fun i r hr=>by
    obtain ⟨k1,k2⟩:=h (i+1) r (by simpa using hr)
    refine ⟨k1,fun k x hk=>?_⟩
    have:=k2 k x hk
    rwa [show off+sz+i*sz+k=off+(i+1)*sz+k by rw [Nat.add_mul];omega]) _ x hj
   rwa [show off+sz+(j-q.2.length)=off+j by omega] at this
theorem lg.nE {M:Mem} {d:D} {v:Value} (h:VD M d v):lg M [d] [v]:=⟨rfl,fun j c x k1 k2=>by
 cases j with
 | zero=>simp at k1 k2;subst k1 k2;exact h
 | succ j=>simp at k1⟩
theorem lg.cut {M:Mem} {ds es:List D} {cs:List Value} (n:Nat) (h1:lg M ds (cs.take n)) (h2:lg M es (cs.drop n)):lg M (ds++es) cs:=by
 have:=h1.append h2
 rwa [zP] at this
theorem lg.aah {M:Mem} {ds:List D} {vs:List Value} (h:lg M ds vs):∀x∈vs,x.oneCell'=true:=fun x hx=>by
 obtain ⟨j,hj⟩:=List.getElem?_of_mem hx
 have hl:=(zB.1 hj).1
 exact (h.2 j _ x (zD (by rw [h.1];exact hl)) hj).one
section
variable {P:Program} {W:World}
theorem jQ {t:TypeId} {k:IntKind} (ht:P.underlying t=some (.int k)):GH P W t (.int k):=by
 intro H enc n cs x h
 obtain ⟨a,rfl,_,hw⟩:=DataW.trod_int ht h
 refine ⟨a,.nE (.v _ rfl),?_⟩
 have hw:(decide (k.min≤a) && decide (a≤k.max))=true:=hw
 rw [zC] at hw
 exact ⟨of_decide_eq_true hw.1,of_decide_eq_true hw.2⟩
theorem Ab {t e:TypeId} {u:Ty} (ht:P.underlying t=some (.slice e)) (he:P.cellsOf e=u.size) (h0:0<u.size) (h:GH P W e u):GH P W t (.aF u):=by
 intro H enc n cs x hx
 rcases open_slice ht hx with ⟨rfl,_⟩ | ⟨a,len,cap,m,n',D',Pl,rfl,hb,hl,hm,hmm,_,Nw⟩
 ·exact ⟨([]:List u.T),.nE (.ui u.size false none),Nat.zero_le _,fun x hx=>by cases hx⟩
 ·have Nr:m=cap:=by simpa using hmm
  by_cases hc:cap=0
  ·subst hc
   have:len=0:=by omega
   subst this
   exact ⟨([]:List u.T),.nE (.ui u.size false _),Nat.zero_le _,fun x hx=>by cases hx⟩
  ·obtain ⟨b,off,sp⟩:=a
   have YU:sp=none:=by
    obtain ⟨cs',k1,_⟩:=Nw 0 (by omega)
    obtain ⟨_,hlen,AJ⟩:=World.cells?_some k1
    have g0:=AJ 0 (by omega)
    obtain ⟨c0,Hg⟩:∃c0,cs'[0]?=some c0:=by
     cases cs' with
     | nil=>simp at hlen;omega
     | cons c _=>exact ⟨c,rfl⟩
    rw [Hg] at g0
    simpa [Addr.add] using World.cell?_spot g0
   subst YU
   obtain ⟨ps,h1,h2⟩:=tD (Q:=fun i (q:u.T×List Value)=>W.cells? 0 ((⟨b,off,none⟩:Addr).add (i*P.cellsOf e)) (P.cellsOf e)=some q.2∧lg (o6 W) (dh u q.1) q.2∧C8 u q.1) len (fun i hi=>by
    obtain ⟨cs',k1,k2⟩:=Nw i (by omega)
    obtain ⟨x,k3,k4⟩:=h H enc n' cs' _ k2
    exact ⟨(x,cs'),k1,k3,k4⟩)
   have Ct:∀q∈ps,lg (o6 W) (dh u q.1) q.2:=fun q hq=>by
    obtain ⟨i,hi⟩:=List.getElem?_of_mem hq
    exact (h2 i q hi).2.1
   refine ⟨ps.map (·.1),.nE ?_,?_,fun x oz=>?_⟩
   ·have hlen:((ps.map (·.1)).map (dh u)).length=len:=by simp [h1]
    have hv:=wb ps Ct
    have He:((ps.map (·.1)).map (dh u)).flatten=(ps.map fun q=>dh u q.1).flatten:=by rw [List.map_map];rfl
    have:=VD.sl (M:=o6 W) u.size false ((ps.map (·.1)).map (dh u)) (some (b,off)) cap (ps.map (·.2)).flatten (by
     intro e' Vi
     obtain ⟨x,_,rfl⟩:=List.mem_map.1 Vi
     exact dY u x) (by rw [hlen];exact hl) (fun h=>by cases h) (fun h=>by cases h) hm (by rw [He];exact hv.1) (fun p j x hp hj=>by
     cases hp
     refine wa (M:=o6 W) (b:=b) (sz:=u.size) ps off (fun i q hq=>?_) j x hj
     obtain ⟨k1,k2,_⟩:=h2 i q hq
     refine ⟨by rw [←k2.1,dY],fun k x hk=>?_⟩
     refine EH ?_ (k2.aah x (zG hk))
     have AJ:=CT k1 k x hk
     rw [he] at AJ
     simpa [Addr.add_lit] using AJ) (fun j c x e1 e2=>hv.2 j c x (by rw [←He];exact e1) e2)
    rw [hlen] at this
    exact this
   ·show (ps.map (·.1)).length≤maxLen
    simp [h1];omega
   ·have oz:x∈ps.map (·.1):=oz
    obtain ⟨q,hq,rfl⟩:=List.mem_map.1 oz
    obtain ⟨i,hi⟩:=List.getElem?_of_mem hq
    exact (h2 i q hi).2.2
inductive O6 (P:Program) (W:World):List Field→Nat→Ty→Prop
 | one {fd:Field} {off:Nat} {a:Ty} (h:GH P W fd.type a) (ho:fd.offset=off) (hs:P.cellsOf fd.type=a.size):O6 P W [fd] off a
 | cons {fd:Field} {fs:List Field} {off:Nat} {a b:Ty} (h:GH P W fd.type a) (ho:fd.offset=off) (hs:P.cellsOf fd.type=a.size) (k:O6 P W fs (off+a.size) b):O6 P W (fd::fs) off (.pair a b)
theorem O6.read {H:Type} {enc:TypeId×Value→H} {n:Nat} {cs:List Value} {fs:List Field} {off:Nat} {u:Ty} (h:O6 P W fs off u):cs.length=off+u.size →
  (∀fd∈fs,∃x,DataW.trod enc P W 0 (fun _=>true) true n fd.type ((cs.drop fd.offset).take (P.cellsOf fd.type))=some x)→∃a:u.T,lg (o6 W) (dh u a) (cs.drop off)∧C8 u a:=by
 induction h with
 | one h ho hs=>
  intro hl hx
  obtain ⟨x,G5⟩:=hx _ (zV ..)
  obtain ⟨a,a1,a2⟩:=h H enc n _ x G5
  refine ⟨a,?_,a2⟩
  rw [ho,hs,za (by simp;omega)] at a1
  exact a1
 | cons h ho hs k ih=>
  rename_i fd fs off a b
  intro hl hx
  have hl:cs.length=off+(a.size+b.size):=hl
  obtain ⟨x,G5⟩:=hx fd (zV ..)
  obtain ⟨y,a1,a2⟩:=h H enc n _ x G5
  obtain ⟨z,b1,b2⟩:=ih (by omega) (fun fd' hm=>hx fd' (zT _ hm))
  refine ⟨(y,z),?_,a2,b2⟩
  rw [ho,hs] at a1
  refine lg.cut (ds:=dh a y) (es:=dh b z) a.size a1 ?_
  rw [List.drop_drop];exact b1
theorem oX {t:TypeId} {fs:Array Field} {u:Ty} (ht:P.underlying t=some (.struct fs)) (hl:P.cellsOf t=u.size) (h:O6 P W fs.toList 0 u):GH P W t u:=by
 intro H enc n cs x hx
 obtain ⟨xs,m,_,_,qC,hxl,hf⟩:=DataW.trod_struct ht hx
 obtain ⟨a,d1,d2⟩:=h.read (H:=H) (enc:=enc) (n:=m) (cs:=cs) (by rw [qC,hl,Nat.zero_add]) (fun fd hm=>by
  obtain ⟨i,hi⟩:=List.getElem?_of_mem hm
  have L0:fs[i]?=some fd:=by simpa using hi
  have h1:=hf i fd L0
  have eO:i<fs.size:=(Array.getElem?_eq_some_iff.1 L0).1
  exact ⟨xs[i]'(by omega), by rw [h1]; exact zD (by omega)⟩)
 rw [List.drop_zero] at d1
 exact ⟨a,d1,d2⟩
def IX (W:World):G:=⟨fun _=>none,o6 W,fun _=>none⟩
theorem Inv.start {S:Hp} (hS:∀o,S.ob o=none):Inv (IX W) S W where
 cells:=fun o cs h=>by rw [hS] at h;cases h
 cX:=fun o x h=>by rw [hS] at h;cases h
 fresh:=fun _ _=>rfl
 lt:=fun o b s h=>by cases h
 inj:=fun o o' x x' b s s' h=>by rw [hS] at h;cases h
 mem:=fun b i x h=>by
  have h:(W.cell? ⟨b,i,none⟩).filter (·.oneCell')=some x:=h
  rw [Option.filter_eq_some_iff] at h
  exact CV h.1
 ly:=fun o b s i x h=>by rw [hS] at h;cases h
 lp:=fun b l h=>by cases h
theorem D2 {t:TypeId} {u:Ty} {H:Type} {enc:TypeId×Value→H} {v:Value} {dd:DataW H} {p:List MemPlace} (hr:GH P W t u) (hd:u.data=true) (hc:v.cells.toList=[v]) (h:DataW.Trod enc P W 0 (fun _=>true) true t v dd p) :
  ∃a:u.T,V (IX W) (bO false u a) v∧C8 u a:=by
 obtain ⟨fuel,hf⟩:=h
 rw [hc] at hf
 obtain ⟨a,h1,h2⟩:=hr H enc fuel _ _ hf
 have h3:=lg.cells (g:=IX W) u a _ hd h1
 refine ⟨a,?_,h2⟩
 show V (IX W) (match aA u a with | [c]=>c | _=>.cG) v
 obtain ⟨hl,h4⟩:=h3
 match he:aA u a with
 | [c]=>exact (h4 0 c v (by rw [he];rfl) rfl).1
 | []=>exact .cG _
 | _::_::_=>exact .cG _
theorem HF {t:TypeId} {u:Ty} {H:Type} {enc:TypeId×Value→H} {vs:Array Value} {dd:DataW H} {p:List MemPlace} (hr:GH P W t u) (hd:u.data=true) (h:DataW.Trod enc P W 0 (fun _=>true) true t (.agg vs) dd p) :
  ∃a:u.T,V (IX W) (bO true u a) (.agg vs)∧C8 u a:=by
 obtain ⟨fuel,hf⟩:=h
 obtain ⟨a,h1,h2⟩:=hr H enc fuel _ _ hf
 have h3:=lg.cells (g:=IX W) u a _ hd h1
 have h3:Vs (IX W) (aA u a) vs.toList:=by simpa [Value.cells] using h3
 exact ⟨a,by have:=h3.agg;simpa [bO] using this,h2⟩
def emK:(k:RK)→k.T
 | .box t=>([]:List t.T)
 | .row t=>([]:List (Option (List t.T)))
 | .map _ tk _ tv=>([]:List (List (tk.T×tv.T)))
def CK:(l:List (Nat×RK))→q7 l
 | []=>()
 | p::l=>(emK p.2,CK l)
theorem DY:∀(k:RK) (j:Nat),dQ k (emK k) j=none
 | .box _,_=>rfl
 | .row _,_=>rfl
 | .map _ _ _ _,_=>rfl
theorem ry:∀(l:List (Nat×RK)) (r:Nat) (x:Rg),bq (dC l (CK l)) r=some x→∀j,dQ x.k x.c j=none
 | [],r,x,h,j=>by cases h
 | p::l,r,x,h,j=>by
  have h:(bif Nat.beq p.1 r then some (⟨p.1,p.2,emK p.2⟩:Rg) else bq (dC l (CK l)) r)=some x:=h
  cases hp:Nat.beq p.1 r with
  | true=>rw [hp] at h;cases h;exact DY p.2 j
  | false=>rw [hp] at h;exact ry l r x h j
theorem IW (rl wl:List (Nat×RK)) (o:Nat):(hp (h0 rl wl (CK rl) (CK wl))).ob o=none:=by
 show (if o<cI then fO .nil o else dR (dC wl (CK wl)++dC rl (CK rl)) o)=none
 split
 ·unfold fO;rw [Tr.get_nil]
 ·unfold dR
  rw [g8]
  cases h1:bq (dC wl (CK wl)) (mq o) with
  | some x=>exact ry wl _ x h1 _
  | none=>
   simp only
   cases h2:bq (dC rl (CK rl)) (mq o) with
   | some x=>exact ry rl _ x h2 _
   | none=>rfl
theorem EN {f:FuncId} {sg:da} {F:Plain sg} (h:bj P f sg F) (hrs:sg.rs=[(false,.bool)]) (x:kG sg.ps) {y:kG sg.rs} {d':q7 sg.wg} (hF:F x (CK sg.rg) (CK sg.wg)=some (y,d')) (hy:sP sg.rs y = .v (.bool true)) {vs:List Value}
  (hl:(m0 sg.ps x).length=vs.length) (hv:∀(i:Nat) (p:A) (v:Value),(m0 sg.ps x)[i]?=some p→vs[i]?=some v→V (IX W) p v) :
  Calls P f vs.toArray W fun e W'=>e = .returned (.bool true)∧Go.World.Since W.heap.size W W':=by
 obtain ⟨t,aR,lk,hp⟩:=h.pc x _ _ y d' hF
 refine (hp (IX W) W vs (.start (IW _ _)) hl hv).mono ?_
 rintro e W' ⟨v,g',rfl,h1,_,h3⟩
 rw [hy] at h1
 cases h1
 exact ⟨rfl,h3.os,h3.tape,h3.output,h3.size,fun k hk=>h3.frame k hk (by rintro ⟨o,s,x,_,e⟩;cases e)⟩
end
end
set_option linter.unusedVariables false
set_option linter.unusedSimpArgs false
section
open Go.RowKit Go.Conc
def oW {σ ρ:Type} (f:Int→σ→(σ→Option ρ)→Option ρ):List Int→σ→(σ→Option ρ)→Option ρ
 | [],s,k=>k s
 | t::l,s,k=>f t s (fun s'=>oW f l s' k)
def qi {D α β:Type} (LiveF:D→Option ((List Int×Unit)×α)) (StepF:Int→D→Option (β×D)) (most:Int) (k:Int×D→Option ((Int×(Int×Unit))×D)) (s:Int×D):Option ((Int×(Int×Unit))×D):=
 bd (LiveF s.2) (fun p=>br (aQ 0 (zN (len p.1.1))) (br (cP (zN (len p.1.1)) 1000000)
  (oW (fun t s k=>br (ak s.1 most) (some ((s.1,(3,())),s.2)) (bd (StepF t s.2) (fun q=>k (ae .i64 s.1 1,q.2)))) p.1.1 s k) none)
  (some ((s.1,(0,())),s.2)))
def F6 {D α β:Type} (LiveF:D→Option ((List Int×Unit)×α)) (StepF:Int→D→Option (β×D)) (most:Int) (d:D):Option ((Int×(Int×Unit))×D):=
 br (aQ most 0) (some ((0,(1,())),d)) (loop (qi LiveF StepF most) (0,d))
structure Raw (S:Hp) (g:G) (w0 w:World) (b:Nat):Prop where
 ge:w0.heap.size≤b
 lt:b<w.heap.size
 ow:¬ml S g b
 mem:∀i,g.mem b i=none
 lp:g.lp b=none
structure KK (S0:Hp) (g0:G) (w0:World) (S:Hp) (g:G) (w:World):Prop where
 inv:Inv g S w
 ext:Ext S0 g0 w0 S g w
theorem KK.refl {S:Hp} {g:G} {w:World} (h:Inv g S w):KK S g w S g w:=⟨h,.refl S g w⟩
section
variable {P:Program} {S0 S S':Hp} {g0 g g':G} {w0 w w':World}
theorem Raw.ext {b:Nat} (h:Raw S g w0 w b) (e:Ext S g w S' g' w'):Raw S' g' w0 w' b∧w'.heap[b]?=w.heap[b]?:=by
 refine ⟨⟨h.ge,Nat.lt_of_lt_of_le h.lt e.size,fun o=>(e.own b o).elim h.ow (fun k=>absurd h.lt (by omega)),fun i=>?_,?_⟩,e.frame b h.lt h.ow⟩
 ·cases hm:g'.mem b i with
  | none=>rfl
  | some x=>exact absurd ((e.rR b i x hm).elim (fun k=>by rw [h.mem] at k;cases k) (fun k=>k.elim (fun k=>absurd k h.ow) (fun k=>absurd h.lt (by omega)))) id
 ·cases hm:g'.lp b with
  | none=>rfl
  | some x=>exact absurd ((e.lpo b x hm).elim (fun k=>by rw [h.lp] at k;cases k) (fun k=>absurd h.lt (by omega))) id
theorem KK.trans (k:KK S0 g0 w0 S g w) (hi:Inv g' S' w') (e:Ext S g w S' g' w'):KK S0 g0 w0 S' g' w':=⟨hi,k.ext.trans e⟩
theorem KK.call {f:FuncId} {aa:List A} {vs:List Value} {r:A} (G9:PC P f aa S S' r) (k:KK S0 g0 w0 S g w) (hl:aa.length=vs.length) (hv:∀(i:Nat) (p:A) (v:Value),aa[i]?=some p→vs[i]?=some v→V g p v) :
  Calls P f vs.toArray w (fun e w'=>∃v g',e = .returned v∧V g' r v∧KK S0 g0 w0 S' g' w'∧Le g g'∧∀b,Raw S g w0 w b→Raw S' g' w0 w' b∧w'.heap[b]?=w.heap[b]?):=by
 refine (G9 g w vs k.inv hl hv).mono ?_
 rintro e w' ⟨v,g',rfl,h1,h2,h3⟩
 exact ⟨v,g',rfl,h1,k.trans h2 h3,h3.le,fun b hb=>hb.ext h3⟩
theorem Inv.olt {o b:Nat} (h:Inv g S w) (ho:ml S g b):b<w.heap.size:=by
 obtain ⟨o,s,x,h1,h2⟩:=ho
 exact h.lt o b s h2
theorem KK.raw {b:Nat} (k:KK S0 g0 w0 S g w) (hb:w0.heap.size≤b) (ho:¬ml S g b) (hm:∀i,g.mem b i=none) (IM:g.lp b=none)
  (e1:w'.os=w.os) (e2:w'.tape=w.tape) (e3:w'.output=w.output) (hs:w.heap.size≤w'.heap.size) (hh:∀j,j<w.heap.size→j≠b→w'.heap[j]?=w.heap[j]?):KK S0 g0 w0 S g w':=by
 have hI:=k.inv
 refine ⟨⟨fun o cs e=>(hI.cells o cs e).imp id fun ⟨b',t,k1,cur,ty,k2,k3⟩=>⟨b',t,k1,cur,ty,by rw [hh b' (hI.lt _ _ _ k1) (fun h=>ho (h▸⟨o,_,_,e,k1⟩))];exact k2,k3⟩,
  fun o x e=>let ⟨b',s,ob,k1,k2,k3⟩:=hI.cX o x e;⟨b',s,ob,k1,by rw [hh b' (hI.lt _ _ _ k1) (fun h=>ho (h▸⟨o,_,_,e,k1⟩))];exact k2,k3⟩,
  hI.fresh,fun o b s e=>Nat.lt_of_lt_of_le (hI.lt o b s e) hs,hI.inj,
  fun b' i x e=>let ⟨cur,ty,fz,k1,k2⟩:=hI.mem b' i x e;⟨cur,ty,fz,by rw [hh b' (Array.getElem?_eq_some_iff.1 k1).1 (fun h=>by rw [h,hm] at e;cases e)];exact k1,k2⟩,
  hI.ly,fun b' l e=>let ⟨r,k1,k2⟩:=hI.lp b' l e;⟨r,by rw [hh b' (Array.getElem?_eq_some_iff.1 k1).1 (fun h=>by rw [h,IM] at e;cases e)];exact k1,k2⟩⟩,?_⟩
 have hE:=k.ext
 exact ⟨hE.le,e1.trans hE.os,e2.trans hE.tape,e3.trans hE.output,Nat.le_trans hE.size hs,fun j hj hn=>by
  rw [hh j (Nat.lt_of_lt_of_le hj hE.size) (by omega)];exact hE.frame j hj hn,hE.own,hE.Jd,hE.fr,hE.rR,hE.lpo⟩
theorem KK.change {b:Nat} (k:KK S0 g0 w0 S g w) (hb:Raw S g w0 w b)
  (e1:w'.os=w.os) (e2:w'.tape=w.tape) (e3:w'.output=w.output) (hs:w'.heap.size=w.heap.size) (hh:∀j,j≠b→w'.heap[j]?=w.heap[j]?):KK S0 g0 w0 S g w'∧∀j,Raw S g w0 w j→Raw S g w0 w' j:=
 ⟨k.raw hb.ge hb.ow hb.mem hb.lp e1 e2 e3 (Nat.le_of_eq hs.symm) (fun j _ h=>hh j h),fun j h=>⟨h.ge,by rw [hs];exact h.lt,h.ow,h.mem,h.lp⟩⟩
theorem KK.alloc (k:KK S0 g0 w0 S g w) (ob:Obj):KK S0 g0 w0 S g (w.alloc ob)∧Raw S g w0 (w.alloc ob) w.heap.size∧∀j,Raw S g w0 w j→Raw S g w0 (w.alloc ob) j∧(w.alloc ob).heap[j]?=w.heap[j]?:=by
 have ho:¬ml S g w.heap.size:=fun h=>Nat.lt_irrefl _ (Inv.olt (o:=0) k.inv h)
 have hm:∀i,g.mem w.heap.size i=none:=fun i=>by
  cases e:g.mem w.heap.size i with
  | none=>rfl
  | some x=>exact absurd (k.inv.mlt e) (Nat.lt_irrefl _)
 have IM:g.lp w.heap.size=none:=by
  cases e:g.lp w.heap.size with
  | none=>rfl
  | some l=>obtain ⟨r,k1,_⟩:=k.inv.lp _ _ e;exact absurd (Array.getElem?_eq_some_iff.1 k1).1 (Nat.lt_irrefl _)
 have pa:(w.alloc ob).heap.size=w.heap.size+1:=Array.size_push ..
 have hh:∀j,j<w.heap.size→(w.alloc ob).heap[j]?=w.heap[j]?:=fun j hj=>by show (w.heap.push ob)[j]?=_;rw [Array.getElem?_push,if_neg (Nat.ne_of_lt hj)]
 exact ⟨k.raw (b:=w.heap.size) k.ext.size ho hm IM rfl rfl rfl (by omega) (fun j hj _=>hh j hj),⟨k.ext.size,by omega,ho,hm,IM⟩,fun j h=>⟨⟨h.ge,by have:=h.lt;omega,h.ow,h.mem,h.lp⟩,hh j h.lt⟩⟩
theorem L8 {f:FuncId} {sg:da} {F:Plain sg} (hF:bj P f sg F) {aa:List A} {h h2:H} {pv:A} (hr:O4 sg F aa h (fun pv h' _=>some (pv,h'))=some (pv,h2)):PC P f aa (hp h) (hp h2) pv:=by
 obtain ⟨D_,h',T,e,k⟩:=Gb hF hr
 cases e
 have hs:=k.ok (hp h) Agree.self
 have e:iU T (hp h2) (hp h)=hp h2:=Hp.ext' (fun i=>by
  show (if touch T i=true then _ else _)=_
  split
  ·rfl
  ·rename_i hi;exact (k.out i (by simpa using hi)).1.symm) (fun i=>by
  show (if touch T i=true then _ else _)↔_
  split
  ·exact Iff.rfl
  ·rename_i hi;exact (k.out i (by simpa using hi)).2.symm)
 rw [e] at hs
 exact hs
theorem yx {f:FuncId} {args:Array Value} {R:Ending→World→Prop} {Q:Goroutine→World→Prop} {c:Frame} {cs:List Frame} (h:Calls P f args w R) (hn:∀e w',R e w'→∃v,e = .returned v)
  (hk:∀v w',R (.returned v) w'→LoneTo P Q (Go.Conc.G (c.finish v) cs) w'):LoneTo P Q (Go.Conc.G (Frame.enter P f args .normal) (c::cs)) w:=by
 obtain ⟨e,w',fr,hR,hc,hf,hl⟩:=h (c::cs)
 obtain ⟨v,rfl⟩:=hn e w' hR
 obtain ⟨g2,w2,hs,hq⟩:=hk v w' hR
 exact ⟨g2,w2,Steps.trans hc (Steps.head (step_leave_returned hl) hs),hq⟩
theorem hZ {b:Frame} {a:Act} {k:List Item} {cs:List Frame} {w:World} {ops:Array Oper} {i:Nat} {rest:List Nat} {o:Oper} {f:FuncId} {fn:Func} {args:Array Operand} {ats:Array TypeId} {vs:Array Value} {R:Ending→World→Prop} {Q:Goroutine→World→Prop}
  (ho:ops[i]?=some o) (hw:Region.wanted o (yielded ops a.tmps)=true) (hk:b.kind≠.early) (mN:o.op = .call { callee:=.value (.func f),args,argTypes:=ats })
  (hf : P.funcs[f]? = some fn) (UZ : (fn.name == "runtime.NumGoroutine") = false) (hb : fn.body.isNone = false) (AH : args.map a.eval = vs)
  (hc:Calls P f vs w R) (hn:∀e w',R e w'→∃v,e = .returned v)
  (hK:∀v w',R (.returned v) w'→LoneTo P Q (Go.Conc.G (b.at (a.put o.dst v) (.inRegion ops rest::k)) cs) w'):LoneTo P Q (Go.Conc.G (b.at a (.inRegion ops (i::rest)::k)) cs) w:=by
 refine LoneTo.step (step_solo_go rfl (stepG_enter ho hw hk (run_call_body mN hf UZ hb))) ?_
 rw [AH]
 refine yx hc hn (fun v w' hR=>?_)
 rw [Frame.finish_at,ho]
 exact hK v w' hR
theorem Dw (hI:Inv g S w) {k:IntKind} {full:Bool} {l:List Int} {v:Value} (h:V g (.tl (.int k) full l) v) :
  ∃ad cap,v = .slice ad l.length cap∧(0<l.length→∃q,ad=some q∧∀i x,l[i]?=some x→w.cell? (q.add i)=some (.int k x)):=by
 obtain ⟨ad,cap,us,h1,h2,h3,h4⟩:=V.ud hI (t:=.int k) rfl h
 refine ⟨ad,cap,h1,fun hl=>?_⟩
 obtain ⟨q,e,h5⟩:=h4 hl
 refine ⟨q,e,fun i x hx=>?_⟩
 have hi:i<us.length:=by
  refine Nat.lt_of_lt_of_le (zB.1 hx).1 (Nat.le_of_eq ?_)
  rw [h3];exact (Nat.mul_one _).symm
 have hf:∀l:List Int,(l.flatMap (aA (.int k)))=l.map (fun x=>A.v (.int k x)):=fun l=>by
  induction l with
  | nil=>rfl
  | cons a l ih=>show _::_=_::_;rw [←ih];rfl
 have h6:=(h2.2 i (.v (.int k x)) us[i] ((congrArg (fun z=>z[i]?) (hf l)).trans (by simp [hx])) (zD hi)).1
 have h7:=h5 i us[i] (zD hi)
 rw [h7]
 generalize us[i]=u at h6
 cases h6
 rfl
end
end
end Go.Bm
set_option linter.unusedVariables false
set_option linter.unusedSimpArgs false
namespace Go.Proofs.YtklkjncibchelaaGreat
open Go.Conc Go.RowKit
set_option maxRecDepth 100000
structure lJ (c:Nat) (w w':World):Prop where
 os:w'.os=w.os
 tape:w'.tape=w.tape
 output:w'.output=w.output
 size:w.heap.size≤w'.heap.size
 same:∀j,j<w.heap.size→j≠c→w'.heap[j]?=w.heap[j]?
theorem lJ.refl (c:Nat) (w:World):lJ c w w:=⟨rfl,rfl,rfl,Nat.le_refl _,fun _ _ _=>rfl⟩
theorem lJ.trans {c:Nat} {w w' w'':World} (h:lJ c w w') (k:lJ c w' w''):lJ c w w'':=
 ⟨k.os.trans h.os,k.tape.trans h.tape,k.output.trans h.output,Nat.le_trans h.size k.size,fun j hj hc=>(k.same j (Nat.lt_of_lt_of_le hj h.size) hc).trans (h.same j hj hc)⟩
theorem lJ.alloc (c:Nat) (w:World) (ob:Obj):lJ c w (w.alloc ob):=
 ⟨rfl,rfl,rfl,by show _≤(w.heap.push ob).size;rw [Array.size_push];omega,fun j hj _=>by show (w.heap.push ob)[j]?=_;rw [Array.getElem?_push,if_neg (Nat.ne_of_lt hj)]⟩
theorem lJ.setChan (w:World) (c cap:Nat) (buf:Array Value) (cl:Bool) (s r:Nat) (tm:Bool):lJ c w (w.setChan c cap buf cl s r tm):=
 ⟨rfl,rfl,rfl,by rw [size_setChan];exact Nat.le_refl _,fun j hj hc=>by simp only [World.setChan];rw [Array.getElem?_setIfInBounds_ne (by omega)]⟩
theorem eR (w:World) (ob:Obj) {j:Nat} {x:Obj} (h:w.heap[j]?=some x):(w.alloc ob).heap[j]?=some x:=by
 have:=(Array.getElem?_eq_some_iff.1 h).1
 show (w.heap.push ob)[j]?=_
 rw [Array.getElem?_push,if_neg (Nat.ne_of_lt this),h]
theorem Cc (w:World) (c cap s r:Nat) (x:Value) (l:List Value) (h:w.heap[c]?=some (.chan cap (x::l).toArray true s r false)) :
  Calls Tryz.prog 34 #[.agg #[.chan (some c)]] w fun e w'=>e = .returned (.tuple #[x,.bool true])∧lJ c w w'∧w'.heap[c]?=some (.chan cap l.toArray true s (r+1) false):=by
 refine calls_of_loneTo fun cs=>?_
 have e:Frame.enter Tryz.prog 34 #[.agg #[.chan (some c)]] .normal=(base 34).at ⟨#[.agg #[.chan (some c)],undef,undef,undef,undef,undef,undef,undef,undef,undef,undef,undef,undef,undef,undef],[]⟩ [.code (Tryz.f34.body.getD .skip)]:=by
  simp [Frame.enter,Frame.at,Tryz.func34,base,Tryz.f34]
 rw [e]
 refine LoneTo.goes (n:=13) ?_
 simp only [Tryz.f34,Option.getD_some]
 s_c stepG_seq
 s_reg
 s_op
 s_op
 s_op
 s_c stepG_region_end
 s_c stepG_seq
 s_reg
 s_op
 s_op
 s_c stepG_region_end
 s_c stepG_seq
 s_reg
 s_stop
 refine LoneTo.step (step_lone_select_recv_buf (c:=c) (z:=.int .i64 0) (stepG_comm (cases:=#[rcase c (.int .i64 0)]) (blocking:=false) (shape:=.select) (w':=w.alloc (.cells #[.chan (some c)] 100)) rfl rfl (by decide) (by simp [go_sem,execOp,rcase,Act.eval])) (eR w _ h) (by simp)) ?_
 rw [Frame.finish_at]
 walk_nrm
 refine LoneTo.goes (n:=20) ?_
 s_op
 s_op
 s_c stepG_region_end
 s_c stepG_block
 s_cond true
 s_c stepG_seq
 s_reg
 s_op
 s_op
 s_op
 s_op
 s_c stepG_region_end
 s_c stepG_seq
 s_reg
 s_op
 s_op
 s_op
 s_op
 s_c stepG_region_end
 s_c stepG_ret'
 s_stop
 refine LoneTo.done ⟨.returned (.tuple #[x,.bool true]),_,rfl,⟨rfl,(lJ.alloc c w _).trans (.setChan _ _ _ _ _ _ _ _),heap_setChan _ _ _ _ _ _ _ _ ?_⟩,rfl,rfl,rfl,rfl,_,Tryz.func34,by simp [results,Tryz.f34,Frame.at]⟩
 exact (Array.getElem?_eq_some_iff.1 (eR w _ h)).1
theorem Cd (w:World) (c cap s r:Nat) (h:w.heap[c]?=some (.chan cap #[] true s r false)) :
  Calls Tryz.prog 34 #[.agg #[.chan (some c)]] w fun e w'=>e = .returned (.tuple #[.int .i64 0,.bool false])∧lJ c w w'∧w'.heap[c]?=some (.chan cap #[] true s r false):=by
 refine calls_of_loneTo fun cs=>?_
 have e:Frame.enter Tryz.prog 34 #[.agg #[.chan (some c)]] .normal=(base 34).at ⟨#[.agg #[.chan (some c)],undef,undef,undef,undef,undef,undef,undef,undef,undef,undef,undef,undef,undef,undef],[]⟩ [.code (Tryz.f34.body.getD .skip)]:=by
  simp [Frame.enter,Frame.at,Tryz.func34,base,Tryz.f34]
 rw [e]
 refine LoneTo.goes (n:=13) ?_
 simp only [Tryz.f34,Option.getD_some]
 s_c stepG_seq
 s_reg
 s_op
 s_op
 s_op
 s_c stepG_region_end
 s_c stepG_seq
 s_reg
 s_op
 s_op
 s_c stepG_region_end
 s_c stepG_seq
 s_reg
 s_stop
 refine LoneTo.step (step_lone_select_recv_shut (c:=c) (z:=.int .i64 0) (stepG_comm (cases:=#[rcase c (.int .i64 0)]) (blocking:=false) (shape:=.select) (w':=w.alloc (.cells #[.chan (some c)] 100)) rfl rfl (by decide) (by simp [go_sem,execOp,rcase,Act.eval])) (eR w _ h)) ?_
 rw [Frame.finish_at]
 walk_nrm
 refine LoneTo.goes (n:=20) ?_
 s_op
 s_op
 s_c stepG_region_end
 s_c stepG_block
 s_cond true
 s_c stepG_seq
 s_reg
 s_op
 s_op
 s_op
 s_op
 s_c stepG_region_end
 s_c stepG_seq
 s_reg
 s_op
 s_op
 s_op
 s_op
 s_c stepG_region_end
 s_c stepG_ret'
 s_stop
 exact LoneTo.done ⟨.returned (.tuple #[.int .i64 0,.bool false]),_,rfl,⟨rfl,lJ.alloc c w _,eR w _ h⟩,rfl,rfl,rfl,rfl,_,Tryz.func34,by simp [results,Tryz.f34,Frame.at]⟩
set_option linter.unusedVariables false
set_option linter.unusedSimpArgs false
open Go.Conc Go.RowKit Go.Bm
set_option maxRecDepth 100000
theorem Of:∃i,Tryz.prog.info? 3=some i∧i.bytes=8:=by
 have h:(Tryz.prog.info? 3).map (·.bytes)=some 8:=by kernel_rfl
 obtain ⟨i,hi,hb⟩:=Option.map_eq_some_iff.1 h
 exact ⟨i,hi,hb⟩
theorem aal (w:World) (n:Nat) (hn:n≤1000000):(Instr.makeChan 98 (.int .i64 n)).run Tryz.prog w = .ok (.chan (some w.heap.size)) (w.alloc (.chan n #[] false 0 0 false)):=by
 obtain ⟨i,hi,hb⟩:=Of
 exact run_makeChan (P:=Tryz.prog) (w:=w) Tryz.underlying98 hi .i64 n (by omega) (by rw [hb];omega)
theorem iw (w:World) (ob:Obj):(w.alloc ob).heap[w.heap.size]?=some ob:=by
 show (w.heap.push ob)[w.heap.size]?=_
 rw [Array.getElem?_push,if_pos rfl]
theorem sy {w:World} {ob:Obj} (a:Addr) (h:a.block<w.heap.size):(w.alloc ob).cell? a=w.cell? a:=by
 have e:(w.alloc ob).heap[a.block]?=w.heap[a.block]?:=by
  show (w.heap.push ob)[a.block]?=_
  rw [Array.getElem?_push,if_neg (Nat.ne_of_lt h)]
 simp only [World.cell?,e]
theorem pF {w:World} {c cap:Nat} {buf:Array Value} {cl:Bool} {s r:Nat} {tm:Bool} (a:Addr) (h:a.block≠c):(w.setChan c cap buf cl s r tm).cell? a=w.cell? a:=by
 simp only [World.cell?,World.setChan,Array.getElem?_setIfInBounds_ne (Ne.symm h)]
def Iw:Code:=match Tryz.f33.body with
 | some (.seq _ (.seq _ (.seq _ (.seq (.seq _ (.block _ (.loop x))) _))))=>x
 | _=>.skip
theorem BB {Q:Goroutine→World→Prop} (cs:List Frame) (k:List Item) (l:List Int) (c b4 n:Nat) (q:Addr) (hl:l.length=n) (hn:n≤1000000) (L5:b4≠c) (x0 x1 x2 x3 x5 x7 x8 x9 xK xJ Bw:Value)
  (ad:Option Addr) (cap:Nat) (hq:0<n→ad=some q) (hqc:q.block≠c) :
  ∀(m i:Nat),i+m=n→∀(w:World) (s r:Nat) (x6 vU vT vS vR vQ vP zt xV xU xT:Value),
   w.heap[b4]?=some (.cells #[.chan (some c)] 100)→w.heap[c]?=some (.chan n ((l.take i).map (Value.int .i64)).toArray false s r false) →
   (∀j x,l[j]?=some x→w.cell? (q.add j)=some (.int .i64 x)) →
   (∀w' s' (y6 Ys Yr Yq Yp Yo Yn Ym Yl:Value),lJ c w w'→w'.heap[b4]?=some (.cells #[.chan (some c)] 100)→w'.heap[c]?=some (.chan n (l.map (Value.int .i64)).toArray false s' r false) →
    LoneTo Tryz.prog Q (Go.Conc.G ((base 33).at ⟨#[x0,x1,x2,x3,.pointer (some ⟨b4,0,none⟩),x5,y6,x7,x8,x9,xK,xJ,Bw,.slice ad n cap,.int .i64 n,Ys,Yr,Yq,Yp,Yo,Yn,Ym,Yl,xV,xU,xT],[]⟩ k) cs) w') →
   LoneTo Tryz.prog Q (Go.Conc.G ((base 33).at ⟨#[x0,x1,x2,x3,.pointer (some ⟨b4,0,none⟩),x5,x6,x7,x8,x9,xK,xJ,Bw,.slice ad n cap,.int .i64 n,.int .i64 i,vU,vT,vS,vR,vQ,vP,zt,xV,xU,xT],[]⟩ (.code Iw :: .inLoop Iw :: .inBlock 0::k)) cs) w:=by
 intro m
 induction m with
 | zero=>
  intro i hi w s r x6 vU vT vS vR vQ vP zt xV xU xT h4 hc hd hK
  have e1:¬((i:Int)<(n:Int)):=by omega
  refine LoneTo.goes (n:=7) ?_
  simp only [Iw,Tryz.f33]
  s_c stepG_seq
  s_reg
  s_op
  s_c stepG_region_end
  s_c stepG_seq
  s_cond false
  s_exit
  s_stop
  refine hK w s _ _ _ _ _ _ _ _ _ (lJ.refl c w) h4 ?_
  rw [hc,za (by omega)]
 | succ m ih=>
  intro i hi w s r x6 vU vT vS vR vQ vP zt xV xU xT h4 hc hd hK
  have e1:((i:Int)<(n:Int)):=by omega
  obtain rfl:=hq (by omega)
  have eO:i<l.length:=by omega
  have hx:l[i]?=some l[i]:=zD eO
  have oz:=hd i _ hx
  have h4c:w.cell? ⟨b4,0,none⟩=some (.chan (some c)):=by simp [World.cell?,h4]
  have e2:¬((i:Int)<0):=by omega
  have e3:i<n:=by omega
  refine LoneTo.goes (n:=19) ?_
  simp only [Iw,Tryz.f33]
  s_c stepG_seq
  s_reg
  s_op
  s_c stepG_region_end
  s_c stepG_seq
  s_cond true
  s_c stepG_skip
  s_c stepG_seq
  s_c stepG_block
  s_c stepG_seq
  s_reg
  s_op
  s_op
  s_op
  s_c stepG_region_end
  s_reg
  s_op
  s_op
  s_op
  s_stop
  refine LoneTo.step (step_lone_send_room (c:=c) (cap:=n) (buf:=((l.take i).map (Value.int .i64)).toArray) (s:=s) (r:=r) (tm:=false) (stepG_comm (cases:=#[scase c (.int .i64 l[i]) (.tuple #[])]) (blocking:=true) (shape:=.send) (w':=w) rfl rfl (by decide) (by simp [execOp,scase,Act.eval])) hc (by simp;omega)) ?_
  rw [Frame.finish_at]
  walk_nrm
  refine LoneTo.goes (n:=7) ?_
  s_c stepG_region_end
  s_c stepG_inBlock
  s_reg
  s_op
  s_op
  s_c stepG_region_end
  s_c stepG_inLoop
  s_stop
  have hm:List.take i (List.map (Value.int .i64) l)++[Value.int .i64 l[i]]=List.take (i+1) (List.map (Value.int .i64) l):=by
   rw [List.take_add_one,zL,hx];rfl
  rw [hm,IntKind.wrap_i64,show (↑i+1+9223372036854775808)%18446744073709551616-9223372036854775808=((i+1:Nat):Int) by omega]
  have Hf:c<w.heap.size:=(Array.getElem?_eq_some_iff.1 hc).1
  have nr:=lJ.setChan w c n (List.take (i+1) (List.map (Value.int .i64) l)).toArray false (s+1) r false
  refine ih (i+1) (by omega) _ (s+1) r _ _ _ _ _ _ _ _ _ _ _ ?_ ?_ ?_ ?_
  ·rw [nr.same b4 (Array.getElem?_eq_some_iff.1 h4).1 L5];exact h4
  ·rw [List.map_take];exact heap_setChan _ _ _ _ _ _ _ _ Hf
  ·intro j x hj
   rw [pF _ (show (q.add j).block≠c by unfold Addr.add;split<;>exact hqc)]
   exact hd j x hj
  ·intro w' s' y6 Ys Yr Yq Yp Yo Yn Ym Yl k1 k2 k3
   exact hK w' s' y6 Ys Yr Yq Yp Yo Yn Ym Yl (nr.trans k1) k2 k3
theorem xx {D:Type} {S:D→Hp} {d:D} {p:A} {l:List Int} {full:Bool} (hL:PC Tryz.prog 17 [p] (S d) (S d) (.tl (.int .i64) full l)) (hn:l.length≤1000000)
  {S0:Hp} {g0 g:Bm.G} {w0 w:World} {vw:Value} (k:KK S0 g0 w0 (S d) g w) (hv:V g p vw) :
  Calls Tryz.prog 33 #[vw] w fun e w'=>∃(c:Nat) (g':Bm.G) (s:Nat),e = .returned (.agg #[.chan (some c)])∧KK S0 g0 w0 (S d) g' w'∧Le g g'∧Raw (S d) g' w0 w' c ∧
   w'.heap[c]?=some (.chan l.length (l.map (Value.int .i64)).toArray true s 0 false)∧w.heap.size≤c∧(∀b,Raw (S d) g w0 w b→Raw (S d) g' w0 w' b∧w'.heap[b]?=w.heap[b]?):=by
 refine calls_of_loneTo fun cs=>?_
 have e:Frame.enter Tryz.prog 33 #[vw] .normal=(base 33).at ⟨#[vw,undef,undef,undef,undef,undef,undef,undef,undef,undef,undef,undef,undef,undef,undef,undef,undef,undef,undef,undef,undef,undef,undef,undef,undef,undef],[]⟩ [.code (Tryz.f33.body.getD .skip)]:=by
  simp [Frame.enter,Frame.at,Tryz.func33,base,Tryz.f33]
 rw [e]
 refine LoneTo.goes (n:=7) ?_
 simp only [Tryz.f33,Option.getD_some]
 s_c stepG_seq
 s_reg
 s_op
 s_c stepG_region_end
 s_c stepG_seq
 s_reg
 s_op
 s_stop
 obtain ⟨k1,r1,r2⟩:=k.alloc (.cells #[.chan none] 100)
 refine hZ rfl rfl (by decide) rfl Tryz.func17 (by kernel_rfl) rfl (vs:=[vw].toArray) (by simp [Act.eval]) (KK.call hL k1 rfl (fun i p' v e1 e2=>by
  cases i with
  | zero=>cases e1;cases e2;exact hv
  | succ i=>cases e1)) (fun e w' ⟨v,_,h,_⟩=>⟨v,h⟩) ?_
 rintro v w2 ⟨v',g2,he,Co,k2,hle,lX⟩
 cases he
 obtain ⟨ad,cap,rfl,hq⟩:=Dw k2.inv Co
 have h2:w2.heap[w.heap.size]?=some (.cells #[.chan none] 100):=by rw [(lX _ r1).2];exact iw w _
 have hb2:w.heap.size<w2.heap.size:=(lX _ r1).1.lt
 generalize O0:w.heap.size=b2 at h2 hb2
 walk_nrm
 have hmc:=aal w2 l.length hn
 refine LoneTo.goes (n:=20) ?_
 s_op
 s_c stepG_region_end
 s_c stepG_seq
 s_reg
 s_op
 s_op
 s_op
 s_op
 s_op
 s_op
 s_c stepG_region_end
 s_c stepG_seq
 s_c stepG_seq
 s_reg
 s_op
 s_op
 s_op
 s_c stepG_region_end
 s_c stepG_block
 s_c stepG_loop
 s_stop
 have qx:∃q:Addr,(0<l.length→ad=some q)∧q.block≠w2.heap.size∧∀j x,l[j]?=some x→((w2.alloc (.chan l.length #[] false 0 0 false)).alloc (.cells #[.chan (some w2.heap.size)] 100)).cell? (q.add j)=some (.int .i64 x):=by
  cases l with
  | nil=>exact ⟨⟨w2.heap.size+1,0,none⟩,fun h=>absurd h (Nat.lt_irrefl 0),Nat.succ_ne_self _,fun j x h=>by simp at h⟩
  | cons x l=>
   obtain ⟨q,e,h⟩:=hq (Nat.succ_pos _)
   have hb:q.block<w2.heap.size:=by
    have h0:=h 0 x rfl
    cases e1:w2.heap[q.block]? with
    | none=>rw [show q.add 0=q from rfl] at h0;simp [World.cell?,e1] at h0
    | some ob=>exact (Array.getElem?_eq_some_iff.1 e1).1
   refine ⟨q,fun _=>e,Nat.ne_of_lt hb,fun j y hj=>?_⟩
   have e2:(q.add j).block=q.block:=by unfold Addr.add;split<;>rfl
   rw [sy _ (by rw [e2];exact Nat.lt_of_lt_of_le hb (lJ.alloc 0 w2 _).size),sy _ (by rw [e2];exact hb)]
   exact h j y hj
 obtain ⟨q,OR,E9,hq3⟩:=qx
 obtain ⟨k3,rc,t3⟩:=k2.alloc (.chan l.length #[] false 0 0 false)
 have OY:=iw w2 (.chan l.length #[] false 0 0 false)
 generalize hw3:w2.alloc (.chan l.length #[] false 0 0 false)=w3 at *
 have hs3:w3.heap.size=w2.heap.size+1:=by rw [←hw3];exact Array.size_push ..
 obtain ⟨k4,r4,t4⟩:=k3.alloc (.cells #[.chan (some w2.heap.size)] 100)
 have hb4:=iw w3 (.cells #[.chan (some w2.heap.size)] 100)
 have IT:=eR w3 (.cells #[.chan (some w2.heap.size)] 100) OY
 rw [hs3] at r4 hb4
 generalize w3.alloc (.cells #[.chan (some w2.heap.size)] 100)=w4 at *
 have D3:=(t4 _ rc).1
 have bJ:=(t4 _ (t3 _ (lX _ r1).1).1).1
 have h24:w4.heap[b2]?=some (.cells #[.chan none] 100):=by rw [←O0,(t4 _ (t3 _ (lX _ r1).1).1).2,(t3 _ (lX _ r1).1).2,O0];exact h2
 refine BB cs _ l w2.heap.size (w2.heap.size+1) l.length q rfl hn (Nat.succ_ne_self _) _ _ _ _ _ _ _ _ _ _ _ ad cap OR E9 l.length 0 (Nat.zero_add _) w4 0 0 _ _ _ _ _ _ _ _ _ _ _ hb4 IT hq3 ?_
 intro w5 s5 y6 Ys Yr Yq Yp Yo Yn Ym Yl nr hb5 OX
 obtain ⟨k5,t5⟩:=(show KK S0 g0 w0 (S d) g2 w5∧(∀b,Raw (S d) g2 w0 w4 b→Raw (S d) g2 w0 w5 b) from
  ⟨k4.raw D3.ge D3.ow D3.mem D3.lp nr.os nr.tape nr.output nr.size (fun j h1 h2=>nr.same j h1 h2),fun b h=>⟨h.ge,Nat.lt_of_lt_of_le h.lt nr.size,h.ow,h.mem,h.lp⟩⟩)
 have h5c:w5.cell? ⟨w2.heap.size+1,0,none⟩=some (.chan (some w2.heap.size)):=by simp [World.cell?,hb5]
 have h25:w5.heap[b2]?=some (.cells #[.chan none] 100):=by rw [nr.same b2 (O0▸bJ.lt) (by omega)];exact h24
 generalize hcc:w2.heap.size=c at *
 have qC:=run_close_open (P:=Tryz.prog) (w:=w5) #[98] 0 OX
 refine LoneTo.goes (n:=5) ?_
 s_c stepG_seq
 s_reg
 s_op
 s_op
 s_op
 s_stop
 have nc:=lJ.setChan w5 c l.length (List.map (Value.int .i64) l).toArray true s5 0 false
 have hc6:=heap_setChan w5 c l.length (List.map (Value.int .i64) l).toArray true s5 0 false (Array.getElem?_eq_some_iff.1 OX).1
 have Ua:=t5 _ D3
 have r52:=t5 _ bJ
 obtain ⟨k6,t6⟩:=(show KK S0 g0 w0 (S d) g2 (w5.setChan c l.length (List.map (Value.int .i64) l).toArray true s5 0 false)∧(∀b,Raw (S d) g2 w0 w5 b→Raw (S d) g2 w0 (w5.setChan c l.length (List.map (Value.int .i64) l).toArray true s5 0 false) b) from
  ⟨k5.raw Ua.ge Ua.ow Ua.mem Ua.lp nc.os nc.tape nc.output nc.size (fun j h1 h2=>nc.same j h1 h2),fun b h=>⟨h.ge,Nat.lt_of_lt_of_le h.lt nc.size,h.ow,h.mem,h.lp⟩⟩)
 have h6c:(w5.setChan c l.length (List.map (Value.int .i64) l).toArray true s5 0 false).cell? ⟨c+1,0,none⟩=some (.chan (some c)):=by rw [pF _ (Nat.succ_ne_self c)];exact h5c
 have Vt:(w5.setChan c l.length (List.map (Value.int .i64) l).toArray true s5 0 false).heap[b2]?=some (.cells #[.chan none] 100):=by rw [nc.same b2 (O0▸r52.lt) (by omega)];exact h25
 have aiT:(w5.setChan c l.length (List.map (Value.int .i64) l).toArray true s5 0 false).cell? ⟨b2,0,none⟩=some (.chan none):=by simp [World.cell?,Vt]
 have aiS:(w5.setChan c l.length (List.map (Value.int .i64) l).toArray true s5 0 false).frozen? ⟨b2,0,none⟩=false:=by simp [World.frozen?,Vt]
 change LoneTo Tryz.prog _ (Conc.G _ cs) (w5.setChan c l.length (List.map (Value.int .i64) l).toArray true s5 0 false)
 generalize hw6:w5.setChan c l.length (List.map (Value.int .i64) l).toArray true s5 0 false=w6 at *
 refine LoneTo.goes (n:=7) ?_
 s_c stepG_region_end
 s_c stepG_seq
 s_reg
 s_op
 s_op
 s_c stepG_region_end
 s_c stepG_ret'
 s_stop
 have h7:(w6.setCell ⟨b2,0,none⟩ (.chan (some c)))={ w6 with heap:=w6.heap.setIfInBounds b2 (.cells #[.chan (some c)] 100) }:=by
  unfold World.setCell
  congr 1
  apply Array.ext_getElem?
  intro j
  rw [Array.getElem?_modify,Array.getElem?_setIfInBounds]
  by_cases hj:b2=j
  ·subst hj
   rw [if_pos rfl,if_pos rfl,if_pos (Array.getElem?_eq_some_iff.1 Vt).1,Vt]
   rfl
  ·rw [if_neg hj,if_neg hj]
 rw [h7]
 have e7:∀j,j≠b2→(w6.heap.setIfInBounds b2 (.cells #[.chan (some c)] 100))[j]?=w6.heap[j]?:=fun j hj=>by rw [Array.getElem?_setIfInBounds_ne (Ne.symm hj)]
 obtain ⟨k7,t7⟩:=k6.change (w':={ w6 with heap:=w6.heap.setIfInBounds b2 (.cells #[.chan (some c)] 100) }) (O0▸t6 _ r52) rfl rfl rfl (Array.size_setIfInBounds ..) e7
 have hl7:({ w6 with heap:=w6.heap.setIfInBounds b2 (.cells #[.chan (some c)] 100) }:World).cell? ⟨b2,0,none⟩=some (.chan (some c)):=by
  have:b2<w6.heap.size:=(Array.getElem?_eq_some_iff.1 Vt).1
  simp [World.cell?,this]
 refine LoneTo.done ⟨.returned (.agg #[.chan (some c)]),_,rfl,⟨c,g2,s5,rfl,k7,hle,t7 _ (t6 _ Ua),?_,?_,?_⟩,rfl,rfl,rfl,rfl,_,Tryz.func33,?_⟩
 ·show (w6.heap.setIfInBounds b2 _)[c]?=_
  rw [e7 c (by omega)];exact hc6
 ·omega
 ·intro b hb
  refine ⟨t7 _ (t6 _ (t5 _ (t4 _ (t3 _ (lX _ (r2 _ hb).1).1).1).1)),?_⟩
  have eO:=hb.lt
  rw [O0] at eO
  show (w6.heap.setIfInBounds b2 _)[b]?=_
  rw [e7 b (by omega),nc.same b (by have:=(t5 _ (t4 _ (t3 _ (lX _ (r2 _ hb).1).1).1).1).lt;exact this) (by omega),nr.same b (t4 _ (t3 _ (lX _ (r2 _ hb).1).1).1).1.lt (by omega),(t4 _ (t3 _ (lX _ (r2 _ hb).1).1).1).2,(t3 _ (lX _ (r2 _ hb).1).1).2,(lX _ (r2 _ hb).1).2,(r2 _ hb).2]
 ·simp [go_sem,results,Tryz.f33,Frame.at,hl7]
set_option linter.unusedVariables false
set_option linter.unusedSimpArgs false
open Go.Conc Go.RowKit Go.Bm
set_option maxRecDepth 100000
def G3:Code:=match Tryz.f12.body with
 | some (.seq _ (.seq _ (.seq _ (.seq (.block _ (.loop x)) _))))=>x
 | _=>.skip
def UA:Code:=match G3 with
 | .seq _ (.block _ (.seq _ (.seq _ (.block _ (.loop x)))))=>x
 | _=>.skip
def Zd:Code:=match Tryz.f12.body with
 | some (.seq _ (.seq _ (.seq _ (.seq _ x))))=>x
 | _=>.skip
section
variable {D α β:Type} {S:D→Hp} {S0:Hp} {g0:Bm.G} {w0:World}
def GQ (S:D→Hp) (S0:Hp) (g0:Bm.G) (w0:World) (cs:List Frame) (y:(Int×(Int×Unit))×D) (g':Goroutine) (w':World):Prop:=
 ∃e fr,g'=Conc.G fr cs∧(∃v gg,e = .returned v∧V gg (.jy [.v (.int .i64 y.1.1),.v (.int .i64 y.1.2.1)]) v∧KK S0 g0 w0 (S y.2) gg w')∧fr.fn=12∧fr.leaving Tryz.prog w' e
theorem vg {cs:List Frame} {k:List Item} {y:(Int×(Int×Unit))×D} {g:Bm.G} {w:World} (m er:Int) (hm:y.1.1=m) (he:y.1.2.1=er) (kk:KK S0 g0 w0 (S y.2) g w) (x0 x1 x2 x3 x6 x7 x8 x9 xK xJ Bw Bv Bu Bt vU vT vS vR vQ vP zt xV xU xT Bs Br Bq Bp Bo Bn Bl GW GV Bk Bj Bi Bh:Value) :
  LoneTo Tryz.prog (GQ S S0 g0 w0 cs y) (Conc.G ((base 12).at ⟨#[x0,x1,x2,x3,.int .i64 m,.int .i64 er,x6,x7,x8,x9,xK,xJ,Bw,Bv,Bu,Bt,vU,vT,vS,vR,vQ,vP,zt,xV,xU,xT,Bs,Br,Bq,Bp,Bo,Bn,Bl,GW,GV,Bk,Bj,Bi,Bh],[]⟩ (.code .ret::k)) cs) w:=by
 subst hm he
 refine LoneTo.goes (n:=1) ?_
 s_c stepG_ret'
 s_stop
 refine LoneTo.done ⟨.returned (.tuple #[.int .i64 y.1.1,.int .i64 y.1.2.1]),_,rfl,⟨_,g,rfl,?_,kk⟩,rfl,rfl,rfl,rfl,_,Tryz.func12,by simp [results,Tryz.f12,Frame.at]⟩
 refine .jy _ _ rfl (fun i c x e1 e2=>?_)
 match i with
 | 0=>simp at e1 e2;subst e1 e2;exact .v _
 | 1=>simp at e1 e2;subst e1 e2;exact .v _
 | i+2=>simp at e1
def w8:List Int→Value
 | []=>.int .i64 0
 | t::_=>.int .i64 t
theorem rQ {w:World} {c cap s r:Nat} {L:List Int} (h:w.heap[c]?=some (.chan cap (L.map (Value.int .i64)).toArray true s r false)) :
  Calls Tryz.prog 34 #[.agg #[.chan (some c)]] w fun e w'=>e = .returned (.tuple #[w8 L,.bool (!L.isEmpty)])∧lJ c w w'∧∃r',w'.heap[c]?=some (.chan cap ((L.drop 1).map (Value.int .i64)).toArray true s r' false):=by
 cases L with
 | nil=>exact (Cd w c cap s r h).mono fun e w' k=>⟨k.1,k.2.1,r,k.2.2⟩
 | cons t L=>exact (Cc w c cap s r (.int .i64 t) (L.map (Value.int .i64)) h).mono fun e w' k=>⟨k.1,k.2.1,r+1,k.2.2⟩
theorem IC {StepF:Int→D→Option (β×D)} {p:A} {cs:List Frame} {y:(Int×(Int×Unit))×D} {vw:Value} {most:Int} (hS:∀t d q,StepF t d=some q→∃r,PC Tryz.prog 18 [p,.v (.int .i64 t)] (S d) (S q.2) r)
  {Nc:Int×D→Option ((Int×(Int×Unit))×D)}
  (hO:∀s,Nc s=some y→∀g w,KK S0 g0 w0 (S s.2) g w→V g p vw→∀x2 x3 x4 x5 x7 x8 x9 xK xJ Bw Bv Bu Bt vU vT vS vR vQ vP zt xV xU xT Bs Br Bq Bp Bo Bn Bl GW GV Bk Bj Bi Bh:Value,LoneTo Tryz.prog (GQ S S0 g0 w0 cs y) (Conc.G ((base 12).at ⟨#[vw,.int .i64 most,x2,x3,x4,x5,.int .i64 s.1,x7,x8,x9,xK,xJ,Bw,Bv,Bu,Bt,vU,vT,vS,vR,vQ,vP,zt,xV,xU,xT,Bs,Br,Bq,Bp,Bo,Bn,Bl,GW,GV,Bk,Bj,Bi,Bh],[]⟩ [.code G3,.inLoop G3,.inBlock 0,.code Zd]) cs) w) :
  ∀(L:List Int) (s:Int×D),oW (fun t s k=>br (ak s.1 most) (some ((s.1,(3,())),s.2)) (bd (StepF t s.2) (fun q=>k (ae .i64 s.1 1,q.2)))) L s Nc=some y →
   ∀g w,KK S0 g0 w0 (S s.2) g w→V g p vw→∀(c b7 cap s' r':Nat),Raw (S s.2) g w0 w c→Raw (S s.2) g w0 w b7→b7≠c→w.heap[b7]?=some (.cells #[.chan (some c)] 100)→w.heap[c]?=some (.chan cap ((L.drop 1).map (Value.int .i64)).toArray true s' r' false) →
   ∀x2 x3 x4 x5 xK xJ Bw Bv Bu Bt vU vT vS vR vQ vP zt xV xU xT Bs Br Bq Bp Bo Bn Bl GW GV Bk Bj Bi Bh:Value,LoneTo Tryz.prog (GQ S S0 g0 w0 cs y) (Conc.G ((base 12).at ⟨#[vw,.int .i64 most,x2,x3,x4,x5,.int .i64 s.1,.pointer (some ⟨b7,0,none⟩),(w8 L),.bool (!L.isEmpty),xK,xJ,Bw,Bv,Bu,Bt,vU,vT,vS,vR,vQ,vP,zt,xV,xU,xT,Bs,Br,Bq,Bp,Bo,Bn,Bl,GW,GV,Bk,Bj,Bi,Bh],[]⟩ [.code UA,.inLoop UA,.inBlock 2,.inBlock 1,.inLoop G3,.inBlock 0,.code Zd]) cs) w:=by
 intro L
 induction L with
 | nil=>
  intro s hr g w kk hv c b7 cap s' r' rc r7 L5 h7 hc x2 x3 x4 x5 xK xJ Bw Bv Bu Bt vU vT vS vR vQ vP zt xV xU xT Bs Br Bq Bp Bo Bn Bl GW GV Bk Bj Bi Bh
  have hk:=hO s hr g w kk hv
  clear hO
  refine LoneTo.goes (n:=9) ?_
  simp only [UA,G3,Tryz.f12,w8,List.isEmpty,Bool.not_true,Bool.not_false]
  s_c stepG_seq
  s_c stepG_seq
  s_reg
  s_op
  s_c stepG_region_end
  s_cond false
  s_exit
  s_c stepG_inBlock
  s_c stepG_inLoop
  s_stop
  exact hk _ _ _ _ _ _ _ _ _ _ _ _ _ _ _ _ _ _ _ _ _ _ _ _ _ _ _ _ _ _ _ _ _ _ _ _
 | cons t L ih=>
  intro s hr g w kk hv c b7 cap s' r' rc r7 L5 h7 hc x2 x3 x4 x5 xK xJ Bw Bv Bu Bt vU vT vS vR vQ vP zt xV xU xT Bs Br Bq Bp Bo Bn Bl GW GV Bk Bj Bi Bh
  have hr:br (ak s.1 most) (some ((s.1,(3,())),s.2)) (bd (StepF t s.2) (fun q=>oW (fun t s k=>br (ak s.1 most) (some ((s.1,(3,())),s.2)) (bd (StepF t s.2) (fun q=>k (ae .i64 s.1 1,q.2)))) L (ae .i64 s.1 1,q.2) Nc))=some y:=hr
  rcases la hr with ⟨he,tL⟩ | ⟨he,tL⟩
  ·have he:s.1=most:=of_decide_eq_true he
   clear ih hO hr
   subst he
   cases tL
   refine LoneTo.goes (n:=22) ?_
   simp only [UA,G3,Tryz.f12,w8,List.isEmpty,Bool.not_true,Bool.not_false]
   s_c stepG_seq
   s_c stepG_seq
   s_reg
   s_op
   s_c stepG_region_end
   s_cond true
   s_c stepG_skip
   s_c stepG_seq
   s_c stepG_block
   s_c stepG_seq
   s_c stepG_seq
   s_reg
   s_op
   s_op
   s_op
   s_c stepG_region_end
   s_cond true
   s_c stepG_seq
   s_reg
   s_op
   s_op
   s_op
   s_stop
   refine LoneTo.goes (n:=1) ?_
   s_c stepG_region_end
   s_stop
   exact vg s.1 3 rfl rfl kk _ _ _ _ _ _ _ _ _ _ _ _ _ _ _ _ _ _ _ _ _ _ _ _ _ _ _ _ _ _ _ _ _ _ _ _ _
  ·have he:¬s.1=most:=of_decide_eq_false he
   have Vi:(s.1 == most)=false:=by simp [he]
   obtain ⟨q,hq,wX⟩:=sC tL
   obtain ⟨r,G9⟩:=hS _ _ _ hq
   have ih:=ih _ wX
   clear hO
   refine LoneTo.goes (n:=22) ?_
   simp only [UA,G3,Tryz.f12,w8,List.isEmpty,Bool.not_true,Bool.not_false]
   s_c stepG_seq
   s_c stepG_seq
   s_reg
   s_op
   s_c stepG_region_end
   s_cond true
   s_c stepG_skip
   s_c stepG_seq
   s_c stepG_block
   s_c stepG_seq
   s_c stepG_seq
   s_reg
   s_op
   s_op
   s_op
   s_c stepG_region_end
   s_cond false
   s_c stepG_skip
   s_c stepG_seq
   s_reg
   s_op
   s_op
   s_stop
   refine hZ rfl rfl (by decide) rfl Tryz.func18 (by kernel_rfl) rfl (vs:=[vw,.int .i64 t].toArray) (by simp [Act.eval]) (KK.call G9 kk rfl (fun i p' v e1 e2=>by
    match i with
    | 0=>cases e1;cases e2;exact hv
    | 1=>cases e1;cases e2;exact .v _
    | i+2=>cases e1)) (fun e w' ⟨v,_,h,_⟩=>⟨v,h⟩) ?_
   rintro v w2 ⟨v',g2,Nx,Co,k2,hle,lX⟩
   cases Nx
   have r72:=(lX _ r7).1
   have T_:=(lX _ rc).1
   have h72:w2.heap[b7]?=some (.cells #[.chan (some c)] 100):=by rw [(lX _ r7).2];exact h7
   have Vl:w2.heap[c]?=some (.chan cap (L.map (Value.int .i64)).toArray true s' r' false):=by rw [(lX _ rc).2];exact hc
   have aiM:w2.cell? ⟨b7,0,none⟩=some (.chan (some c)):=by simp [World.cell?,h72]
   have Co:=hv.mono hle
   clear lX hv kk hr tL wX hq h7 hc he Vi
   walk_nrm
   refine LoneTo.goes (n:=8) ?_
   s_c stepG_region_end
   s_reg
   s_op
   s_op
   s_op
   s_c stepG_region_end
   s_c stepG_inBlock
   s_reg
   s_stop
   refine LoneTo.goes (n:=1) ?_
   s_op
   s_stop
   refine hZ rfl rfl (by decide) rfl Tryz.func34 (by kernel_rfl) rfl (vs:=#[.agg #[.chan (some c)]]) (by simp [Act.eval]) (rQ Vl) (fun e w' h=>⟨_,h.1⟩) ?_
   rintro v w3 ⟨he3,nr,r3,OY⟩
   cases he3
   have k3:=k2.raw T_.ge T_.ow T_.mem T_.lp nr.os nr.tape nr.output nr.size (fun j h1 h2=>nr.same j h1 h2)
   have rr:∀b,Raw (S q.2) g2 w0 w2 b→Raw (S q.2) g2 w0 w3 b:=fun b h=>⟨h.ge,Nat.lt_of_lt_of_le h.lt nr.size,h.ow,h.mem,h.lp⟩
   have h73:w3.heap[b7]?=some (.cells #[.chan (some c)] 100):=by rw [nr.same b7 r72.lt L5];exact h72
   have ih:=ih g2 w3 k3 Co c b7 cap s' r3 (rr _ T_) (rr _ r72) L5 h73 OY
   walk_nrm
   refine LoneTo.goes (n:=7) ?_
   s_op
   s_op
   s_op
   s_op
   s_op
   s_c stepG_region_end
   s_c stepG_inLoop
   s_stop
   exact ih _ _ _ _ _ _ _ _ _ _ _ _ _ _ _ _ _ _ _ _ _ _ _ _ _ _ _ _ _ _ _ _ _
theorem Er {LiveF:D→Option ((List Int×Unit)×α)} {StepF:Int→D→Option (β×D)} {p:A} {cs:List Frame} {y:(Int×(Int×Unit))×D} {vw:Value} {most:Int} (hS:∀t d q,StepF t d=some q→∃r,PC Tryz.prog 18 [p,.v (.int .i64 t)] (S d) (S q.2) r)
  (hL:∀d q,LiveF d=some q→PC Tryz.prog 17 [p] (S d) (S d) (.tl (.int .i64) false q.1.1)) :
  ∀(n:Nat) (s:Int×D),iter (qi LiveF StepF most) n s=some y→∀g w,KK S0 g0 w0 (S s.2) g w→V g p vw →
   ∀x2 x3 x4 x5 x7 x8 x9 xK xJ Bw Bv Bu Bt vU vT vS vR vQ vP zt xV xU xT Bs Br Bq Bp Bo Bn Bl GW GV Bk Bj Bi Bh:Value,LoneTo Tryz.prog (GQ S S0 g0 w0 cs y) (Conc.G ((base 12).at ⟨#[vw,.int .i64 most,x2,x3,x4,x5,.int .i64 s.1,x7,x8,x9,xK,xJ,Bw,Bv,Bu,Bt,vU,vT,vS,vR,vQ,vP,zt,xV,xU,xT,Bs,Br,Bq,Bp,Bo,Bn,Bl,GW,GV,Bk,Bj,Bi,Bh],[]⟩ [.code G3,.inLoop G3,.inBlock 0,.code Zd]) cs) w:=by
 intro n
 induction n with
 | zero=>intro s hr;cases hr
 | succ n ihn=>
  intro s hr g w kk hv x2 x3 x4 x5 x7 x8 x9 xK xJ Bw Bv Bu Bt vU vT vS vR vQ vP zt xV xU xT Bs Br Bq Bp Bo Bn Bl GW GV Bk Bj Bi Bh
  obtain ⟨q,hq,tL⟩:=sC (show qi LiveF StepF most (iter (qi LiveF StepF most) n) s=some y from hr)
  have sJ:=hL _ _ hq
  obtain ⟨⟨l,u⟩,a⟩:=q
  have sJ:PC Tryz.prog 17 [p] (S s.2) (S s.2) (.tl (.int .i64) false l):=sJ
  have tL:br (aQ 0 (zN (len l))) (br (cP (zN (len l)) 1000000) (oW (fun t s k=>br (ak s.1 most) (some ((s.1,(3,())),s.2)) (bd (StepF t s.2) (fun q=>k (ae .i64 s.1 1,q.2)))) l s (iter (qi LiveF StepF most) n)) none) (some ((s.1,(0,())),s.2))=some y:=tL
  clear hr hq
  refine LoneTo.goes (n:=4) ?_
  simp only [G3,Tryz.f12]
  s_c stepG_seq
  s_c stepG_seq
  s_reg
  s_op
  s_stop
  refine hZ rfl rfl (by decide) rfl Tryz.func17 (by kernel_rfl) rfl (vs:=[vw].toArray) (by simp [Act.eval]) (KK.call sJ kk rfl (fun i p' v e1 e2=>by
   match i with
   | 0=>cases e1;cases e2;exact hv
   | i+1=>cases e1)) (fun e w' ⟨v,_,h,_⟩=>⟨v,h⟩) ?_
  rintro v w2 ⟨v',g2,Nx,Co,k2,hle,lX⟩
  cases Nx
  obtain ⟨ad,cap,rfl,_⟩:=Dw k2.inv Co
  have YS:=hv.mono hle
  clear lX hv kk
  walk_nrm
  rcases la tL with ⟨hc,wX⟩ | ⟨hc,wX⟩
  ·have hc:(0:Int)<(l.length:Int):=of_decide_eq_true hc
   obtain ⟨hb,hr3⟩ | ⟨_,hr3⟩:=la wX
   ·have hb:(l.length:Int)≤1000000:=of_decide_eq_true hb
    have IM:=hc
    clear tL wX
    have hlen:0<l.length:=by omega
    refine LoneTo.goes (n:=9) ?_
    s_op
    s_op
    s_c stepG_region_end
    s_cond true
    s_c stepG_skip
    s_c stepG_block
    s_c stepG_seq
    s_reg
    s_op
    s_stop
    refine hZ rfl rfl (by decide) rfl Tryz.func33 (by kernel_rfl) rfl (vs:=#[vw]) (by simp [Act.eval]) (xx sJ (by omega) k2 YS) (fun e w' ⟨_,_,_,h,_⟩=>⟨_,h⟩) ?_
    rintro v w3 ⟨c,g3,s3,Nx,k3,aaY,rc,hcc,_,_⟩
    cases Nx
    obtain ⟨k4,r7,t4⟩:=k3.alloc (.cells #[.chan (some c)] 100)
    have h7:=iw w3 (.cells #[.chan (some c)] 100)
    have IT:=eR w3 (.cells #[.chan (some c)] 100) hcc
    have L5:w3.heap.size≠c:=by have:=rc.lt;omega
    walk_nrm
    refine LoneTo.goes (n:=7) ?_
    s_op
    s_op
    s_c stepG_region_end
    s_c stepG_seq
    s_reg
    s_stop
    have nr7:w3.heap.size=w3.heap.size:=rfl
    have D3:=(t4 _ rc).1
    clear t4 hcc
    generalize w3.alloc (.cells #[.chan (some c)] 100)=w4 at *
    generalize w3.heap.size=b7 at *
    have h7c:w4.cell? ⟨b7,0,none⟩=some (.chan (some c)):=by simp [World.cell?,h7]
    refine LoneTo.goes (n:=1) ?_
    s_op
    s_stop
    refine hZ rfl rfl (by decide) rfl Tryz.func34 (by kernel_rfl) rfl (vs:=#[.agg #[.chan (some c)]]) (by simp [Act.eval]) (rQ IT) (fun e w' h=>⟨_,h.1⟩) ?_
    rintro v w5 ⟨he5,nr,r5,OX⟩
    cases he5
    have k5:=k4.raw D3.ge D3.ow D3.mem D3.lp nr.os nr.tape nr.output nr.size (fun j h1 h2=>nr.same j h1 h2)
    have rr:∀b,Raw (S s.2) g3 w0 w4 b→Raw (S s.2) g3 w0 w5 b:=fun b h=>⟨h.ge,Nat.lt_of_lt_of_le h.lt nr.size,h.ow,h.mem,h.lp⟩
    have h75:w5.heap[b7]?=some (.cells #[.chan (some c)] 100):=by rw [nr.same b7 r7.lt L5];exact h7
    have ih:=IC (p:=p) (cs:=cs) (y:=y) (most:=most) hS ihn l s hr3 g3 w5 k5 (YS.mono aaY) c b7 _ _ _ (rr _ D3) (rr _ r7) L5 h75 OX
    walk_nrm
    refine LoneTo.goes (n:=8) ?_
    s_op
    s_op
    s_op
    s_op
    s_op
    s_c stepG_region_end
    s_c stepG_block
    s_c stepG_loop
    s_stop
    exact ih _ _ _ _ _ _ _ _ _ _ _ _ _ _ _ _ _ _ _ _ _ _ _ _ _ _ _ _ _ _ _ _ _
   ·cases hr3
  ·have hc:¬(0:Int)<(l.length:Int):=of_decide_eq_false hc
   cases wX
   clear ihn tL
   have hlen:¬0<l.length:=by omega
   refine LoneTo.goes (n:=5) ?_
   s_op
   s_op
   s_c stepG_region_end
   s_cond false
   s_exit
   s_stop
   refine LoneTo.goes (n:=7) ?_
   simp only [Zd,Tryz.f12]
   s_c stepG_seq
   s_reg
   s_op
   s_op
   s_op
   s_c stepG_region_end
   s_stop
   exact vg s.1 0 rfl rfl k2 _ _ _ _ _ _ _ _ _ _ _ _ _ _ _ _ _ _ _ _ _ _ _ _ _ _ _ _ _ _ _ _ _ _ _ _ _
theorem F5 {LiveF:D→Option ((List Int×Unit)×α)} {StepF:Int→D→Option (β×D)} {p:A} (hS:∀t d q,StepF t d=some q→∃r,PC Tryz.prog 18 [p,.v (.int .i64 t)] (S d) (S q.2) r)
  (hL:∀d q,LiveF d=some q→PC Tryz.prog 17 [p] (S d) (S d) (.tl (.int .i64) false q.1.1)) (most:Int) (d:D) (y:(Int×(Int×Unit))×D) (hy:F6 LiveF StepF most d=some y) :
  PC Tryz.prog 12 [p,.v (.int .i64 most)] (S d) (S y.2) (.jy [.v (.int .i64 y.1.1),.v (.int .i64 y.1.2.1)]):=by
 intro g w vs hI hl hv
 match vs,hl with
 | [vw,vm],_=>
 have YS:V g p vw:=hv 0 p vw rfl rfl
 have hvm:V g (.v (.int .i64 most)) vm:=hv 1 _ vm rfl rfl
 cases hvm
 have key:Calls Tryz.prog 12 #[vw,.int .i64 most] w (fun e w'=>∃v gg,e = .returned v∧V gg (.jy [.v (.int .i64 y.1.1),.v (.int .i64 y.1.2.1)]) v∧KK (S d) g w (S y.2) gg w'):=by
  refine calls_of_loneTo (fun cs=>?_) (fun w' ⟨v,_,h,_⟩=>by cases h)
  have e:Frame.enter Tryz.prog 12 #[vw,.int .i64 most] .normal=(base 12).at ⟨#[vw,.int .i64 most,undef,undef,undef,undef,undef,undef,undef,undef,undef,undef,undef,undef,undef,undef,undef,undef,undef,undef,undef,undef,undef,undef,undef,undef,undef,undef,undef,undef,undef,undef,undef,undef,undef,undef,undef,undef,undef],[]⟩ [.code (Tryz.f12.body.getD .skip)]:=by
   simp [Frame.enter,Frame.at,Tryz.func12,base,Tryz.f12]
  rw [e]
  have k0:KK (S d) g w (S d) g w:=.refl hI
  show LoneTo Tryz.prog (GQ S (S d) g w cs y) _ _
  rcases la (show br (aQ most 0) (some ((0,(1,())),d)) (loop (qi LiveF StepF most) (0,d))=some y from hy) with ⟨hc,h1⟩ | ⟨hc,h1⟩
  ·have hc:most<0:=of_decide_eq_true hc
   cases h1
   refine LoneTo.goes (n:=18) ?_
   simp only [Tryz.f12,Option.getD_some]
   s_c stepG_seq
   s_reg
   s_op
   s_op
   s_c stepG_region_end
   s_c stepG_seq
   s_c stepG_seq
   s_reg
   s_op
   s_op
   s_c stepG_region_end
   s_cond true
   s_c stepG_seq
   s_reg
   s_op
   s_op
   s_c stepG_region_end
   s_stop
   exact vg 0 1 rfl rfl k0 _ _ _ _ _ _ _ _ _ _ _ _ _ _ _ _ _ _ _ _ _ _ _ _ _ _ _ _ _ _ _ _ _ _ _ _ _
  ·have hc:¬most<0:=of_decide_eq_false hc
   rw [o7] at h1
   have hk:=Er (p:=p) (cs:=cs) (y:=y) (most:=most) hS hL kQ (0,d) h1 g w k0 YS
   refine LoneTo.goes (n:=21) ?_
   simp only [Tryz.f12,Option.getD_some]
   s_c stepG_seq
   s_reg
   s_op
   s_op
   s_c stepG_region_end
   s_c stepG_seq
   s_c stepG_seq
   s_reg
   s_op
   s_op
   s_c stepG_region_end
   s_cond false
   s_c stepG_skip
   s_c stepG_seq
   s_reg
   s_op
   s_c stepG_region_end
   s_c stepG_seq
   s_c stepG_block
   s_c stepG_loop
   s_stop
   exact hk _ _ _ _ _ _ _ _ _ _ _ _ _ _ _ _ _ _ _ _ _ _ _ _ _ _ _ _ _ _ _ _ _ _ _ _
 refine key.mono ?_
 rintro e w' ⟨v,gg,h1,h2,h3⟩
 exact ⟨v,gg,h1,h2,h3.inv,h3.ext⟩
end
set_option linter.unusedVariables false
set_option linter.unusedSimpArgs false
open Go.Bm
set_option maxRecDepth 1000000
set_option maxHeartbeats 0
abbrev T0:Type:=(List ((Int×(Int×(Int×Int)))×((Option Nat)×((Option Nat)×((Option Nat)×((Option Nat)×((Option Nat)×Int)))))))
abbrev T1:Type:=(List (Option Nat))
abbrev zn:Type:=(List ((Option Nat)×((Option Nat)×((Option Nat)×Int))))
abbrev tV:Type:=(List ((Int×(Int×(Int×Int)))×((List (List (Int×(Int×Int))))×((Option Nat)×(Option Nat)))))
abbrev qE:Type:=(List (Int×(Option Nat)))
abbrev pQ:Type:=(List (Option (List Bool)))
abbrev A_:Type:=(List (Option (List ((List (Int×(Int×(Int×(Int×(Int×(Int×Int)))))))×((List Int)×((List (Int×Bool))×(((Int×(Int×(Int×(Int×(Int×(Int×Int))))))×(Int×(Int×(Int×(Int×((List (Int×Bool))×(Int×(Int×(Int×(Int×((List Int)×(Int×((List Int)×(Int×(Bool×(Bool×(Bool×(Int×(Int×(List Int))))))))))))))))))))×Int)))))))
abbrev T2:Type:=(List (Option (List Int)))
abbrev T3:Type:=(List (Int×(Int×(Option Nat))))
abbrev T4:Type:=(List (Option (List (Int×Int))))
abbrev T5:Type:=(List (Option (List (Option Nat))))
abbrev T6:Type:=(List ((List (Int×(Int×(Int×(Int×(Int×(Int×Int)))))))×((Option Nat)×((List (Int×Bool))×(((Int×(Int×(Int×(Int×(Int×(Int×Int))))))×(Int×(Int×(Int×(Int×((List (Int×Bool))×(Int×(Int×(Int×(Int×((List Int)×(Int×((List Int)×(Int×(Bool×(Bool×(Bool×(Int×(Int×(List Int))))))))))))))))))))×(Bool×Int))))))
abbrev T7:Type:=(List (Option (List (Int×((Int×(Int×(Int×(Int×(Int×(Int×Int))))))×(Int×(Int×(Int×(Int×(Int×(List Int)))))))))))
abbrev T9:Type:=(List (Option (List (List (Int×(Int×Int))))))
abbrev bA:((Int×(Int×(Int×Int)))×((Option Nat)×((Option Nat)×((Option Nat)×((Option Nat)×((Option Nat)×Int)))))):=((0,(0,(0,0))),(none,(none,(none,(none,(none,0))))))
abbrev aG:((List (Int×(Int×(Int×(Int×(Int×(Int×Int)))))))×((Option Nat)×((List (Int×Bool))×(((Int×(Int×(Int×(Int×(Int×(Int×Int))))))×(Int×(Int×(Int×(Int×((List (Int×Bool))×(Int×(Int×(Int×(Int×((List Int)×(Int×((List Int)×(Int×(Bool×(Bool×(Bool×(Int×(Int×(List Int))))))))))))))))))))×(Bool×Int))))):=([],(none,([],(((0,(0,(0,(0,(0,(0,0)))))),(0,(0,(0,(0,([],(0,(0,(0,(0,([],(0,([],(0,(false,(false,(false,(0,(0,[]))))))))))))))))))),(false,0)))))
abbrev sm:(Int×((Int×(Int×(Int×(Int×(Int×(Int×Int))))))×(Int×(Int×(Int×(Int×(Int×(List Int)))))))):=(0,((0,(0,(0,(0,(0,(0,0)))))),(0,(0,(0,(0,(0,[])))))))
abbrev U0:Type:=(Unit×(Unit×(Unit×(((Int×(Int×(Int×(Int×(Int×(Int×(Int×(Int×(Int×(Int×(Int×((List (Int×Bool))×(Int×(Int×(Int×(Int×((List Int)×(Int×((List Int)×(Int×(Bool×(Bool×(Bool×(Int×(Int×((List Int)×Unit))))))))))))))))))))))))))×Unit)×Unit))))
abbrev U1:Type:=((Int×(Int×(Int×(Int×(Int×(Int×Int))))))×(Int×(Int×(Int×(Int×((List (Int×Bool))×(Int×(Int×(Int×(Int×((List Int)×(Int×((List Int)×(Int×(Bool×(Bool×(Bool×(Int×(Int×(List Int))))))))))))))))))))
abbrev U2:Type:=(Unit×(Unit×(Unit×Unit)))
abbrev U3:Type:=(Int×((Int×(Int×(Int×(Int×(Int×(Int×Int))))))×(Int×(Int×(Int×(Int×(Int×(List Int))))))))
abbrev U4:Type:=(Int×(Int×(Int×Int)))
abbrev U5:Type:=(Int×(Int×(Int×(Int×(Int×(Int×(Int×(Int×(Int×(Int×(Int×((List (Int×Bool))×(Int×(Int×(Int×(Int×((List Int)×(Int×((List Int)×(Int×(Bool×(Bool×(Bool×(Int×(Int×((List Int)×(Int×Unit)))))))))))))))))))))))))))
abbrev U6:Type:=(Int×(Int×(Int×(Int×(Int×(Int×(Int×(Int×(Int×(Int×(Int×((List (Int×Bool))×(Int×(Int×(Int×(Int×((List Int)×(Int×((List Int)×(Int×(Bool×(Bool×(Bool×(Int×(Int×((List Int)×Unit))))))))))))))))))))))))))
abbrev U7:Type:=(((Option Nat)×((Option Nat)×Unit))×(T0×(T1×(T2×(T3×(T4×(T5×(T6×(T2×(T9×(zn×(tV×(T1×(T2×(qE×(pQ×(A_×Unit)))))))))))))))))
abbrev U8:Type:=(Option ((Bool×Unit)×(T0×(T1×(T2×(T3×(T4×(T5×(T6×(T7×(T2×(T9×(zn×(tV×(T1×(T2×(qE×(pQ×(A_×Unit)))))))))))))))))))
abbrev U9:Type:=(T0×(T1×(T2×(T3×(T4×(T6×(T7×(T2×(T9×Unit)))))))))
abbrev gE:Type:=((Int×Unit)×U2)
abbrev lI:Type:=(List (Int×(Int×Int)))
abbrev xR:Type:=(Option (((Option Nat)×(Int×Unit))×(T0×(T1×(T2×(T3×(T4×(T5×(T6×(T2×(T9×Unit)))))))))))
abbrev iV:Type:=((Bool×Unit)×U2)
abbrev ja:Type:=(Int×(Int×Unit))
abbrev qo:Type:=(List (Int×(Int×(Int×U4))))
abbrev Hl:Type:=(Option ((Int×((List Int)×((List Int)×(Bool×Unit))))×Unit))
abbrev m8:Type:=(T3×(T4×Unit))
abbrev mF:Type:=(Option ((Bool×Unit)×Unit))
abbrev nB:Type:=(Unit×(Unit×Unit))
abbrev pP:Type:=(Option ((Int×Unit)×Unit))
abbrev mE:Type:=((List Int)×Unit)
abbrev zm:Type:=(Option ((Int×Unit)×m8))
abbrev Mm:Type:=((Int×Unit)×(Unit×(Unit×(Unit×m8))))
abbrev nZ:Type:=(List (Int×Bool))
theorem mixed:Tryz.prog.follows .mixedOrders=true:=by kernel_rfl
theorem bD {cs:vI} (h:mm Tryz.prog cs) {f:FuncId} {sg:da} {F:Plain sg} (e:∀x c d,F x c d=ME (cxF env fns homes cs 8) f sg x c d):bj Tryz.prog f sg F:=Xl xl mixed FG (hm:=homes) h 8 e
def TW:da:=⟨[(false,(.int .i64)),(false,(.int .i64))],[(false,(.int .i64)),(false,(.int .i64))],[],[]⟩
def g.gK (a0:Int) (a1:Int):(Option (ja×Unit)):=(br (aQ a1 1) (some ((0,(1,())),())) (gd (IB a1) (br (aQ (cq a0 a1) 0) (some (((ae .i64 (cq a0 a1) a1),(0,())),())) (some (((cq a0 a1),(0,())),())))))
def F10:Plain TW:=fun x c d=>g.gK x.1 x.2.1
theorem X7:bj Tryz.prog 10 TW F10:=bD (aH) fun x c d=>by kernel_rfl
def TG:da:=⟨[(false,(.int .i64)),(false,(.int .i64)),(false,(.int .i64))],[(false,.bool)],[],[]⟩
def g.ab (a0:Int) (a1:Int) (a2:Int):mF:=(br (cP a1 a0) (some (((cP a0 a2),()),())) (some ((false,()),())))
def F38:Plain TG:=fun x c d=>g.ab x.1 x.2.1 x.2.2.1
theorem mA:bj Tryz.prog 38 TG F38:=bD (aH) fun x c d=>by kernel_rfl
def TO:da:=⟨[(true,(.pair (.int .i64) (.pair (.int .i64) (.pair (.int .i64) (.int .i64)))))],[(false,.bool)],[],[]⟩
def g.fh (a0:U4):mF:=(bd (g.ab a0.1 1 8) (fun p0=>(br p0.1.1 (bd (g.ab a0.2.1 1 4) (fun p1=>(br p1.1.1 (bd (g.ab a0.2.2.1 0 2048) (fun p2=>(br p2.1.1 (bd (g.ab a0.2.2.2 0 8192) (fun p3=>(br p3.1.1 (some (((ak (cq (bits .or .i64 a0.2.2.1 a0.2.2.2) 8) 0),()),())) (some ((false,()),()))))) (some ((false,()),()))))) (some ((false,()),()))))) (some ((false,()),())))))
def F27:Plain TO:=fun x c d=>g.fh x.1
theorem N8:bj Tryz.prog 27 TO F27:=bD (ao mA (aH)) fun x c d=>by kernel_rfl
def TN:da:=⟨[(false,(.aF (.aF (.pair (.int .u8) (.pair (.int .i64) (.int .i64))))))],[(false,.bool)],[],[]⟩
def g.h_ (a0:(List lI)) (v0:gE) (v1:gE→mF) (k:(gE→mF)) (s:gE):mF:=(br (aQ s.1.1 (zN (len (nth [] a0 (nN v0.1.1))))) (gd (bn s.1.1) (gd (bu (nN s.1.1) (len (nth [] a0 (nN v0.1.1)))) (br (cP 5 (cS .i64 (nth (0,(0,0)) (nth [] a0 (nN v0.1.1)) (nN s.1.1)).1)) (some ((false,()),())) (br (ak (nth (0,(0,0)) (nth [] a0 (nN v0.1.1)) (nN s.1.1)).1 0) (bd (g.ab (nth (0,(0,0)) (nth [] a0 (nN v0.1.1)) (nN s.1.1)).2.1 0 99) (fun p0=>(br (az p0.1.1) (some ((false,()),())) (br (ak (nth (0,(0,0)) (nth [] a0 (nN v0.1.1)) (nN s.1.1)).1 0) (bd (g.ab (nth (0,(0,0)) (nth [] a0 (nN v0.1.1)) (nN s.1.1)).2.2 0 0) (fun p1=>(br (az p1.1.1) (some ((false,()),())) (k (((ae .i64 s.1.1 1),()),((),((),((),())))))))) (br (ak (nth (0,(0,0)) (nth [] a0 (nN v0.1.1)) (nN s.1.1)).1 1) (bd (g.ab (nth (0,(0,0)) (nth [] a0 (nN v0.1.1)) (nN s.1.1)).2.2 0 0) (fun p2=>(br (az p2.1.1) (some ((false,()),())) (k (((ae .i64 s.1.1 1),()),((),((),((),())))))))) (br (ak (nth (0,(0,0)) (nth [] a0 (nN v0.1.1)) (nN s.1.1)).1 2) (bd (g.ab (nth (0,(0,0)) (nth [] a0 (nN v0.1.1)) (nN s.1.1)).2.2 0 5) (fun p3=>(br (az p3.1.1) (some ((false,()),())) (k (((ae .i64 s.1.1 1),()),((),((),((),())))))))) (br (ak (nth (0,(0,0)) (nth [] a0 (nN v0.1.1)) (nN s.1.1)).1 3) (bd (g.ab (nth (0,(0,0)) (nth [] a0 (nN v0.1.1)) (nN s.1.1)).2.2 0 8) (fun p4=>(br (az p4.1.1) (some ((false,()),())) (k (((ae .i64 s.1.1 1),()),((),((),((),())))))))) (br (ak (nth (0,(0,0)) (nth [] a0 (nN v0.1.1)) (nN s.1.1)).1 4) (bd (g.ab (nth (0,(0,0)) (nth [] a0 (nN v0.1.1)) (nN s.1.1)).2.2 0 0) (fun p5=>(br (az p5.1.1) (some ((false,()),())) (k (((ae .i64 s.1.1 1),()),((),((),((),())))))))) none)))))))) (br (ak (nth (0,(0,0)) (nth [] a0 (nN v0.1.1)) (nN s.1.1)).1 1) (bd (g.ab (nth (0,(0,0)) (nth [] a0 (nN v0.1.1)) (nN s.1.1)).2.1 0 5) (fun p6=>(br (az p6.1.1) (some ((false,()),())) (br (ak (nth (0,(0,0)) (nth [] a0 (nN v0.1.1)) (nN s.1.1)).1 0) (bd (g.ab (nth (0,(0,0)) (nth [] a0 (nN v0.1.1)) (nN s.1.1)).2.2 0 0) (fun p7=>(br (az p7.1.1) (some ((false,()),())) (k (((ae .i64 s.1.1 1),()),((),((),((),())))))))) (br (ak (nth (0,(0,0)) (nth [] a0 (nN v0.1.1)) (nN s.1.1)).1 1) (bd (g.ab (nth (0,(0,0)) (nth [] a0 (nN v0.1.1)) (nN s.1.1)).2.2 0 0) (fun p8=>(br (az p8.1.1) (some ((false,()),())) (k (((ae .i64 s.1.1 1),()),((),((),((),())))))))) (br (ak (nth (0,(0,0)) (nth [] a0 (nN v0.1.1)) (nN s.1.1)).1 2) (bd (g.ab (nth (0,(0,0)) (nth [] a0 (nN v0.1.1)) (nN s.1.1)).2.2 0 5) (fun p9=>(br (az p9.1.1) (some ((false,()),())) (k (((ae .i64 s.1.1 1),()),((),((),((),())))))))) (br (ak (nth (0,(0,0)) (nth [] a0 (nN v0.1.1)) (nN s.1.1)).1 3) (bd (g.ab (nth (0,(0,0)) (nth [] a0 (nN v0.1.1)) (nN s.1.1)).2.2 0 8) (fun gI=>(br (az gI.1.1) (some ((false,()),())) (k (((ae .i64 s.1.1 1),()),((),((),((),())))))))) (br (ak (nth (0,(0,0)) (nth [] a0 (nN v0.1.1)) (nN s.1.1)).1 4) (bd (g.ab (nth (0,(0,0)) (nth [] a0 (nN v0.1.1)) (nN s.1.1)).2.2 0 0) (fun kV=>(br (az kV.1.1) (some ((false,()),())) (k (((ae .i64 s.1.1 1),()),((),((),((),())))))))) none)))))))) (br (ak (nth (0,(0,0)) (nth [] a0 (nN v0.1.1)) (nN s.1.1)).1 2) (bd (g.ab (nth (0,(0,0)) (nth [] a0 (nN v0.1.1)) (nN s.1.1)).2.1 0 5) (fun cA=>(br (az cA.1.1) (some ((false,()),())) (br (ak (nth (0,(0,0)) (nth [] a0 (nN v0.1.1)) (nN s.1.1)).1 0) (bd (g.ab (nth (0,(0,0)) (nth [] a0 (nN v0.1.1)) (nN s.1.1)).2.2 0 0) (fun cb=>(br (az cb.1.1) (some ((false,()),())) (k (((ae .i64 s.1.1 1),()),((),((),((),())))))))) (br (ak (nth (0,(0,0)) (nth [] a0 (nN v0.1.1)) (nN s.1.1)).1 1) (bd (g.ab (nth (0,(0,0)) (nth [] a0 (nN v0.1.1)) (nN s.1.1)).2.2 0 0) (fun iB=>(br (az iB.1.1) (some ((false,()),())) (k (((ae .i64 s.1.1 1),()),((),((),((),())))))))) (br (ak (nth (0,(0,0)) (nth [] a0 (nN v0.1.1)) (nN s.1.1)).1 2) (bd (g.ab (nth (0,(0,0)) (nth [] a0 (nN v0.1.1)) (nN s.1.1)).2.2 0 5) (fun dI=>(br (az dI.1.1) (some ((false,()),())) (k (((ae .i64 s.1.1 1),()),((),((),((),())))))))) (br (ak (nth (0,(0,0)) (nth [] a0 (nN v0.1.1)) (nN s.1.1)).1 3) (bd (g.ab (nth (0,(0,0)) (nth [] a0 (nN v0.1.1)) (nN s.1.1)).2.2 0 8) (fun eZ=>(br (az eZ.1.1) (some ((false,()),())) (k (((ae .i64 s.1.1 1),()),((),((),((),())))))))) (br (ak (nth (0,(0,0)) (nth [] a0 (nN v0.1.1)) (nN s.1.1)).1 4) (bd (g.ab (nth (0,(0,0)) (nth [] a0 (nN v0.1.1)) (nN s.1.1)).2.2 0 0) (fun gy=>(br (az gy.1.1) (some ((false,()),())) (k (((ae .i64 s.1.1 1),()),((),((),((),())))))))) none)))))))) (br (ak (nth (0,(0,0)) (nth [] a0 (nN v0.1.1)) (nN s.1.1)).1 3) (bd (g.ab (nth (0,(0,0)) (nth [] a0 (nN v0.1.1)) (nN s.1.1)).2.1 0 5) (fun fL=>(br (az fL.1.1) (some ((false,()),())) (br (ak (nth (0,(0,0)) (nth [] a0 (nN v0.1.1)) (nN s.1.1)).1 0) (bd (g.ab (nth (0,(0,0)) (nth [] a0 (nN v0.1.1)) (nN s.1.1)).2.2 0 0) (fun kF=>(br (az kF.1.1) (some ((false,()),())) (k (((ae .i64 s.1.1 1),()),((),((),((),())))))))) (br (ak (nth (0,(0,0)) (nth [] a0 (nN v0.1.1)) (nN s.1.1)).1 1) (bd (g.ab (nth (0,(0,0)) (nth [] a0 (nN v0.1.1)) (nN s.1.1)).2.2 0 0) (fun dT=>(br (az dT.1.1) (some ((false,()),())) (k (((ae .i64 s.1.1 1),()),((),((),((),())))))))) (br (ak (nth (0,(0,0)) (nth [] a0 (nN v0.1.1)) (nN s.1.1)).1 2) (bd (g.ab (nth (0,(0,0)) (nth [] a0 (nN v0.1.1)) (nN s.1.1)).2.2 0 5) (fun mu=>(br (az mu.1.1) (some ((false,()),())) (k (((ae .i64 s.1.1 1),()),((),((),((),())))))))) (br (ak (nth (0,(0,0)) (nth [] a0 (nN v0.1.1)) (nN s.1.1)).1 3) (bd (g.ab (nth (0,(0,0)) (nth [] a0 (nN v0.1.1)) (nN s.1.1)).2.2 0 8) (fun jh=>(br (az jh.1.1) (some ((false,()),())) (k (((ae .i64 s.1.1 1),()),((),((),((),())))))))) (br (ak (nth (0,(0,0)) (nth [] a0 (nN v0.1.1)) (nN s.1.1)).1 4) (bd (g.ab (nth (0,(0,0)) (nth [] a0 (nN v0.1.1)) (nN s.1.1)).2.2 0 0) (fun fk=>(br (az fk.1.1) (some ((false,()),())) (k (((ae .i64 s.1.1 1),()),((),((),((),())))))))) none)))))))) (br (ak (nth (0,(0,0)) (nth [] a0 (nN v0.1.1)) (nN s.1.1)).1 4) (bd (g.ab (nth (0,(0,0)) (nth [] a0 (nN v0.1.1)) (nN s.1.1)).2.1 0 0) (fun jX=>(br (az jX.1.1) (some ((false,()),())) (br (ak (nth (0,(0,0)) (nth [] a0 (nN v0.1.1)) (nN s.1.1)).1 0) (bd (g.ab (nth (0,(0,0)) (nth [] a0 (nN v0.1.1)) (nN s.1.1)).2.2 0 0) (fun fq=>(br (az fq.1.1) (some ((false,()),())) (k (((ae .i64 s.1.1 1),()),((),((),((),())))))))) (br (ak (nth (0,(0,0)) (nth [] a0 (nN v0.1.1)) (nN s.1.1)).1 1) (bd (g.ab (nth (0,(0,0)) (nth [] a0 (nN v0.1.1)) (nN s.1.1)).2.2 0 0) (fun eN=>(br (az eN.1.1) (some ((false,()),())) (k (((ae .i64 s.1.1 1),()),((),((),((),())))))))) (br (ak (nth (0,(0,0)) (nth [] a0 (nN v0.1.1)) (nN s.1.1)).1 2) (bd (g.ab (nth (0,(0,0)) (nth [] a0 (nN v0.1.1)) (nN s.1.1)).2.2 0 5) (fun mr=>(br (az mr.1.1) (some ((false,()),())) (k (((ae .i64 s.1.1 1),()),((),((),((),())))))))) (br (ak (nth (0,(0,0)) (nth [] a0 (nN v0.1.1)) (nN s.1.1)).1 3) (bd (g.ab (nth (0,(0,0)) (nth [] a0 (nN v0.1.1)) (nN s.1.1)).2.2 0 8) (fun mD=>(br (az mD.1.1) (some ((false,()),())) (k (((ae .i64 s.1.1 1),()),((),((),((),())))))))) (br (ak (nth (0,(0,0)) (nth [] a0 (nN v0.1.1)) (nN s.1.1)).1 4) (bd (g.ab (nth (0,(0,0)) (nth [] a0 (nN v0.1.1)) (nN s.1.1)).2.2 0 0) (fun jS=>(br (az jS.1.1) (some ((false,()),())) (k (((ae .i64 s.1.1 1),()),((),((),((),())))))))) none)))))))) none)))))))) (br (aQ 8 (zN (len (nth [] a0 (nN v0.1.1))))) (some ((false,()),())) (v1 (((ae .i64 v0.1.1 1),()),((),((),((),())))))))
def g.iP (a0:(List lI)) (k:(gE→mF)) (s:gE):mF:=(br (aQ s.1.1 (zN (len a0))) (gd (bn s.1.1) (gd (bu (nN s.1.1) (len a0)) (loop (g.h_ a0 s k) ((0,()),((),((),((),()))))))) (some (((cP (zN (len a0)) 8),()),())))
def g.ke (a0:(List lI)):mF:=(loop (g.iP a0) ((0,()),((),((),((),())))))
def F28:Plain TN:=fun x c d=>g.ke x.1
theorem adp:bj Tryz.prog 28 TN F28:=bD (ao mA (aH)) fun x c d=>by kernel_rfl
def Tw:da:=⟨[(true,(.pair (.int .i64) (.pair (.int .i64) (.pair (.int .i64) (.int .i64)))))],[(true,(.pair (.int .i64) (.int .i64))),(false,(.int .i64))],[],[]⟩
def g.bS (a0:U4):(Option (((Int×Int)×(Int×Unit))×Unit)):=(bd (g.fh a0) (fun p0=>(br (az p0.1.1) (some (((0,0),(1,())),())) (some ((((cm .i64 a0.1 64),a0.2.2.1),(0,())),())))))
def F52:Plain Tw:=fun x c d=>g.bS x.1
theorem Xv:bj Tryz.prog 52 Tw F52:=bD (ao N8 (aH)) fun x c d=>by kernel_rfl
def Tz:da:=⟨[(true,(.pair (.int .i64) (.pair (.int .i64) (.pair (.int .i64) (.int .i64)))))],[(true,(.pair (.int .i64) (.int .i64))),(false,(.int .i64))],[],[]⟩
def g.gq (a0:U4):(Option (((Int×Int)×(Int×Unit))×Unit)):=(bd (g.bS a0) (fun p0=>(br (az (ak p0.1.2.1 0)) (some (((0,0),(p0.1.2.1,())),())) (some ((((ae .i64 p0.1.1.1 p0.1.1.2),a0.2.2.2),(0,())),())))))
def F50:Plain Tz:=fun x c d=>g.gq x.1
theorem Xw:bj Tryz.prog 50 Tz F50:=bD (ao Xv (aH)) fun x c d=>by kernel_rfl
def TB:da:=⟨[(true,(.pair (.int .i64) (.pair (.int .i64) (.pair (.int .i64) (.int .i64)))))],[(false,(.int .i64)),(false,(.int .i64))],[],[]⟩
def g.j9 (a0:U4):(Option (ja×Unit)):=(bd (g.gq a0) (fun p0=>(some (((ae .i64 p0.1.1.1 p0.1.1.2),(p0.1.2.1,())),()))))
def F48:Plain TB:=fun x c d=>g.j9 x.1
theorem adh:bj Tryz.prog 48 TB F48:=bD (ao Xw (aH)) fun x c d=>by kernel_rfl
def TA:da:=⟨[(false,(.int .i64))],[(false,(.ptr 1)),(false,(.int .i64))],[],[(1,R1),(2,R2)]⟩
def g.kg (a0:Int) (d0:T1) (d1:T2):(Option (((Option Nat)×(Int×Unit))×(T1×(T2×Unit)))):=(bd (g.ab a0 0 65536) (fun p0=>(br (az p0.1.1) (some ((none,(1,())),(d0,(d1,())))) (br (az (ak (cq a0 8) 0)) (some ((none,(1,())),(d0,(d1,())))) (gd (bn a0) (gd (bp (nN a0) 16777216) (some (((some (len d0)),(0,())),((cat d0 [(some (len d1))]),((cat d1 [(some (rep (α:=Int) (nN a0) 0))]),()))))))))))
def F49:Plain TA:=fun x c d=>g.kg x.1 d.1 d.2.1
theorem adg:bj Tryz.prog 49 TA F49:=bD (ao mA (aH)) fun x c d=>by kernel_rfl
def Tx:da:=⟨[(false,(.int .i64)),(false,(.int .i64))],[(false,(.ptr 3)),(false,(.int .i64))],[],[(3,R3),(4,R4)]⟩
def g.fX (a0:Int) (a1:Int) (d0:T3) (d1:T4):(Option (((Option Nat)×(Int×Unit))×m8)):=(jn (fun (k0:(Unit×U2)→_)=>(bd (g.ab a0 0 65536) (fun p1=>(br (az p1.1.1) (some ((none,(1,())),(d0,(d1,())))) (bd (g.ab a1 0 65536) (fun p2=>(br (az p2.1.1) (some ((none,(1,())),(d0,(d1,())))) (br (az (ak (cq (bits .or .i64 a0 a1) 8) 0)) (some ((none,(1,())),(d0,(d1,())))) (k0 ((),((),((),((),()))))))))))))) (fun (s3:(Unit×U2))=>(br (aQ 0 a1) (some (((some (len d0)),(0,())),((ah (0,(0,none)) (cat d0 [(a0,((ae .i64 a0 a1),none))]) (len d0) (fun r5=>(r5.1,(r5.2.1,(some (len d1)))))),((cat d1 [(some [(a0,a1)])]),())))) (some (((some (len d0)),(0,())),((cat d0 [(a0,((ae .i64 a0 a1),none))]),(d1,())))))))
def F51:Plain Tx:=fun x c d=>g.fX x.1 x.2.1 d.1 d.2.1
theorem adf:bj Tryz.prog 51 Tx F51:=bD (ao mA (aH)) fun x c d=>by kernel_rfl
def S_:da:=⟨[(true,(.pair (.int .i64) (.pair (.int .i64) (.pair (.int .i64) (.int .i64))))),(false,(.int .i64)),(false,(.int .i64))],[(false,(.int .i64)),(false,(.int .i64))],[],[]⟩
def g.db (a0:U4) (a1:Int) (a2:Int):(Option (ja×Unit)):=(jn (fun (k0:iV→_)=>(bd (g.fh a0) (fun p1=>(br (az p1.1.1) (k0 ((true,()),((),((),((),()))))) (bd (g.ab a1 0 4) (fun p2=>(k0 (((az p2.1.1),()),((),((),((),()))))))))))) (fun (s3:iV)=>(br s3.1.1 (some ((0,(1,())),())) (bd (g.ab a2 0 (aE .i64 a0.1 1)) (fun p4=>(br (az p4.1.1) (some ((0,(2,())),())) (some (((ae .i64 (cm .i64 a2 64) (cm .i64 a1 8)),(0,())),()))))))))
def F81:Plain S_:=fun x c d=>g.db x.1 x.2.1 x.2.2.1
theorem zh:bj Tryz.prog 81 S_ F81:=bD (ao N8 (ao mA (aH))) fun x c d=>by kernel_rfl
def Lo:da:=⟨[(false,(.cY 1)),(false,(.int .i64))],[(false,.bool)],[(1,R1),(2,R2)],[]⟩
def g.cN (a0:Nat) (a1:Int) (c0:T1) (c1:T2):mF:=(opt (nth none c0 a0) (bd (g.ab a1 0 (-8)) (fun p0=>(br p0.1.1 (some (((ak (cq a1 8) 0),()),())) (some ((false,()),()))))) (fun p1=>(bd (aT c1 p1) (fun p2=>(bd (g.ab a1 0 (aE .i64 (zN (len p2)) 8)) (fun p3=>(br p3.1.1 (some (((ak (cq a1 8) 0),()),())) (some ((false,()),())))))))))
def aet:Plain Lo:=fun x c d=>g.cN x.1 x.2.1 c.1 c.2.1
theorem Gg:bj Tryz.prog 127 Lo aet:=bD (ao mA (aH)) fun x c d=>by kernel_rfl
def S9:da:=⟨[(false,(.cY 1)),(false,(.int .i64)),(false,(.int .u64))],[(false,(.int .i64))],[(1,R1)],[(2,R2)]⟩
def g.fZ (a0:Nat) (a1:Int) (a2:Int) (c0:T1) (k:(((Int×Unit)×(Unit×(Unit×(Unit×(T2×Unit)))))→(Option ((Int×Unit)×(T2×Unit))))) (s:((Int×Unit)×(Unit×(Unit×(Unit×(T2×Unit)))))):(Option ((Int×Unit)×(T2×Unit))):=(br (aQ s.1.1 8) (opt (nth none c0 a0) (gd (bn (cm .i64 8 s.1.1)) none) (fun p0=>(gd (bn (cm .i64 8 s.1.1)) (bd (aT s.2.2.2.2.1 p0) (fun p1=>(gd (bn (ae .i64 a1 s.1.1)) (gd (bu (nN (ae .i64 a1 s.1.1)) (len p1)) (bd (aT s.2.2.2.2.1 p0) (fun p2=>(k (((ae .i64 s.1.1 1),()),((),((),((),((upd s.2.2.2.2.1 p0 (some (upd p2 (nN (ae .i64 a1 s.1.1)) (cS .u8 (j0 .u64 a2 (cm .i64 8 s.1.1)))))),()))))))))))))))) (some ((0,()),(s.2.2.2.2.1,()))))
def g.aZ (a0:Nat) (a1:Int) (a2:Int) (c0:T1) (d0:T2):(Option ((Int×Unit)×(T2×Unit))):=(bd (g.cN a0 a1 c0 d0) (fun p0=>(br (az p0.1.1) (some ((1,()),(d0,()))) (loop (g.fZ a0 a1 a2 c0) ((0,()),((),((),((),(d0,())))))))))
def F82:Plain S9:=fun x c d=>g.aZ x.1 x.2.1 x.2.2.1 c.1 d.1
theorem CL:bj Tryz.prog 82 S9 F82:=bD (ao Gg (aH)) fun x c d=>by kernel_rfl
def Tu:da:=⟨[(true,(.pair (.ptr 1) (.pair (.pair (.int .i64) (.pair (.int .i64) (.pair (.int .i64) (.int .i64)))) (.int .i64)))),(false,(.int .i64)),(false,(.int .u64))],[],[(1,R1)],[(2,R2)]⟩
def g.aD (a0:((Option Nat)×(U4×Int))) (a1:Int) (a2:Int) (c0:T1) (d0:T2):(Option (Unit×(T2×Unit))):=(bd (g.db a0.2.1 a1 a0.2.2) (fun p0=>(opt a0.1 none (fun p1=>(bd (g.aZ p1 p0.1.1 a2 c0 d0) (fun p2=>(some ((),(p2.2.1,())))))))))
def F54:Plain Tu:=fun x c d=>g.aD x.1 x.2.1 x.2.2.1 c.1 d.1
theorem Jg:bj Tryz.prog 54 Tu F54:=bD (ao zh (ao CL (aH))) fun x c d=>by kernel_rfl
def K5:da:=⟨[(false,(.int .i64))],[(false,(.int .i64))],[],[]⟩
def g.lG (a0:Int):pP:=(jn (fun (k0:iV→_)=>(br (ak a0 0) (k0 ((true,()),((),((),((),()))))) (k0 (((ak a0 1),()),((),((),((),()))))))) (fun (s1:iV)=>(br s1.1.1 (some ((0,()),())) (br (ak a0 2) (some ((1,()),())) (br (ak a0 3) (some ((2,()),())) (some (((-1),()),())))))))
def aea:Plain K5:=fun x c d=>g.lG x.1
theorem XM:bj Tryz.prog 199 K5 aea:=bD (aH) fun x c d=>by kernel_rfl
def Lq:da:=⟨[(true,(.pair (.int .i64) (.pair (.int .i64) (.pair (.int .i64) (.int .i64)))))],[(false,.bool)],[],[]⟩
def g.fM (a0:U4):mF:=(bd (g.ab a0.2.2.2 0 16777215) (fun p0=>(br (az p0.1.1) (some ((false,()),())) (bd (g.lG a0.1) (fun p1=>(br (ak p1.1.1 0) (br (ak a0.2.1 0) (some (((ak a0.2.2.1 (-1)),()),())) (some ((false,()),()))) (br (ak p1.1.1 1) (bd (g.ab a0.2.1 1 7) (fun p2=>(br p2.1.1 (bd (g.ab a0.2.2.1 (-1) 7) (fun p3=>(some ((p3.1.1,()),())))) (some ((false,()),()))))) (br (ak p1.1.1 2) (br (ak a0.2.1 0) (bd (g.ab a0.2.2.1 (-1) 7) (fun p4=>(some ((p4.1.1,()),())))) (some ((false,()),()))) (some ((false,()),()))))))))))
def aeu:Plain Lq:=fun x c d=>g.fM x.1
theorem A0:bj Tryz.prog 126 Lq aeu:=bD (ao mA (ao XM (aH))) fun x c d=>by kernel_rfl
def Tc:da:=⟨[(true,(.pair (.int .i64) (.pair (.int .i64) (.pair (.int .i64) (.int .i64)))))],[(false,(.int .u64)),(false,(.int .i64))],[],[]⟩
def g.gY (a0:U4):(Option (ja×Unit)):=(bd (g.fM a0) (fun p0=>(br (az p0.1.1) (some ((0,(1,())),())) (some (((bits .or .u64 (bits .or .u64 (bits .or .u64 (cS .u64 a0.1) (lU .u64 (cS .u64 a0.2.1) 2)) (lU .u64 (cS .u64 (ae .i64 a0.2.2.1 1)) 10)) (lU .u64 (cS .u64 a0.2.2.2) 18)),(0,())),())))))
def F80:Plain Tc:=fun x c d=>g.gY x.1
theorem N6:bj Tryz.prog 80 Tc F80:=bD (ao A0 (aH)) fun x c d=>by kernel_rfl
def Tv:da:=⟨[(true,(.pair (.ptr 1) (.pair (.pair (.int .i64) (.pair (.int .i64) (.pair (.int .i64) (.int .i64)))) (.int .i64)))),(true,(.pair (.int .i64) (.pair (.int .i64) (.pair (.int .i64) (.int .i64)))))],[],[(1,R1)],[(2,R2)]⟩
def g.bF (a0:((Option Nat)×(U4×Int))) (a1:U4) (c0:T1) (d0:T2):(Option (Unit×(T2×Unit))):=(bd (g.gY a1) (fun p0=>(bd (g.aD a0 0 p0.1.1 c0 d0) (fun p1=>(some ((),(p1.2.1,())))))))
def F53:Plain Tv:=fun x c d=>g.bF x.1 x.2.1 c.1 d.1
theorem N7:bj Tryz.prog 53 Tv F53:=bD (ao Jg (ao N6 (aH))) fun x c d=>by kernel_rfl
def TM:da:=⟨[(true,(.pair (.int .i64) (.pair (.int .i64) (.pair (.int .i64) (.int .i64)))))],[(false,(.ptr 1)),(false,(.ptr 3)),(false,(.int .i64))],[],[(1,R1),(2,R2),(3,R3),(4,R4)]⟩
def g.kc (a0:U4) (d0:T1) (d1:T2) (d2:T3) (d3:T4):(Option (((Option Nat)×((Option Nat)×(Int×Unit)))×(T1×(T2×m8)))):=(bd (g.j9 a0) (fun p0=>(br (az (ak p0.1.2.1 0)) (some ((none,(none,(p0.1.2.1,()))),(d0,(d1,(d2,(d3,())))))) (bd (g.kg p0.1.1 d0 d1) (fun p1=>(opt p1.1.1 (bd (g.gq a0) (fun p2=>(bd (g.fX p2.1.1.1 p2.1.1.2 d2 d3) (fun p3=>(opt p3.1.1 (bd (g.bS a0) (fun p4=>(bd (g.bF (none,(a0,0)) (2,(1,((-1),0))) p1.2.1 p1.2.2.1) (fun p5=>(bd (g.aD (none,(a0,0)) 1 (cS .u64 p4.1.1.1) p1.2.1 p5.2.1) (fun p6=>(bd (g.aD (none,(a0,0)) 2 (cS .u64 p4.1.1.2) p1.2.1 p6.2.1) (fun p7=>(some ((none,(none,(0,()))),(p1.2.1,(p7.2.1,(p3.2.1,(p3.2.2.1,())))))))))))))) (fun p8=>(bd (g.bS a0) (fun p9=>(bd (g.bF (none,(a0,0)) (2,(1,((-1),0))) p1.2.1 p1.2.2.1) (fun gI=>(bd (g.aD (none,(a0,0)) 1 (cS .u64 p9.1.1.1) p1.2.1 gI.2.1) (fun kV=>(bd (g.aD (none,(a0,0)) 2 (cS .u64 p9.1.1.2) p1.2.1 kV.2.1) (fun cA=>(some ((none,((some p8),(0,()))),(p1.2.1,(cA.2.1,(p3.2.1,(p3.2.2.1,())))))))))))))))))))) (fun cb=>(bd (g.gq a0) (fun iB=>(bd (g.fX iB.1.1.1 iB.1.1.2 d2 d3) (fun dI=>(opt dI.1.1 (bd (g.bS a0) (fun eZ=>(bd (g.bF ((some cb),(a0,0)) (2,(1,((-1),0))) p1.2.1 p1.2.2.1) (fun gy=>(bd (g.aD ((some cb),(a0,0)) 1 (cS .u64 eZ.1.1.1) p1.2.1 gy.2.1) (fun fL=>(bd (g.aD ((some cb),(a0,0)) 2 (cS .u64 eZ.1.1.2) p1.2.1 fL.2.1) (fun kF=>(some (((some cb),(none,(0,()))),(p1.2.1,(kF.2.1,(dI.2.1,(dI.2.2.1,())))))))))))))) (fun dT=>(bd (g.bS a0) (fun mu=>(bd (g.bF ((some cb),(a0,0)) (2,(1,((-1),0))) p1.2.1 p1.2.2.1) (fun jh=>(bd (g.aD ((some cb),(a0,0)) 1 (cS .u64 mu.1.1.1) p1.2.1 jh.2.1) (fun fk=>(bd (g.aD ((some cb),(a0,0)) 2 (cS .u64 mu.1.1.2) p1.2.1 fk.2.1) (fun jX=>(some (((some cb),((some dT),(0,()))),(p1.2.1,(jX.2.1,(dI.2.1,(dI.2.2.1,())))))))))))))))))))))))))))
def F30:Plain TM:=fun x c d=>g.kc x.1 d.1 d.2.1 d.2.2.1 d.2.2.2.1
theorem ado:bj Tryz.prog 30 TM F30:=bD (ao adh (ao adg (ao Xw (ao adf (ao Xv (ao N7 (ao Jg (aH)))))))) fun x c d=>by kernel_rfl
def TL:da:=⟨[(false,(.aF (.pair (.int .u8) (.pair (.int .i64) (.int .i64)))))],[(false,(.aF (.pair (.int .u8) (.pair (.int .i64) (.int .i64)))))],[],[]⟩
def g.eW (a0:lI):(Option ((lI×Unit)×Unit)):=(gd (bp (aK 0 (len a0)) 16777216) (some (((cat [] a0),()),())))
def F31:Plain TL:=fun x c d=>g.eW x.1
theorem adn:bj Tryz.prog 31 TL F31:=vl (sr xl mixed FG (hm:=homes) (aH) 8) (t:=(.pair (.int .u8) (.pair (.int .i64) (.int .i64)))) (rs:=[(false,.aF (.pair (.int .u8) (.pair (.int .i64) (.int .i64))))]) (F:=fun l=>F31 (l,()) () ()) (by kernel_rfl) (fun l=>by kernel_rfl)
def TK:da:=⟨[(false,(.aF (.pair (.int .u8) (.pair (.int .u8) (.pair (.int .u8) (.pair (.int .u8) (.pair (.int .i64) (.pair (.int .i64) (.int .i64)))))))))],[(false,(.aF (.pair (.int .u8) (.pair (.int .u8) (.pair (.int .u8) (.pair (.int .u8) (.pair (.int .i64) (.pair (.int .i64) (.int .i64)))))))))],[],[]⟩
def g.gp (a0:qo):(Option ((qo×Unit)×Unit)):=(gd (bp (aK 0 (len a0)) 16777216) (some (((cat [] a0),()),())))
def F32:Plain TK:=fun x c d=>g.gp x.1
theorem adm:bj Tryz.prog 32 TK F32:=vl (sr xl mixed FG (hm:=homes) (aH) 8) (t:=(.pair (.int .u8) (.pair (.int .u8) (.pair (.int .u8) (.pair (.int .u8) (.pair (.int .i64) (.pair (.int .i64) (.int .i64)))))))) (rs:=[(false,.aF (.pair (.int .u8) (.pair (.int .u8) (.pair (.int .u8) (.pair (.int .u8) (.pair (.int .i64) (.pair (.int .i64) (.int .i64))))))))]) (F:=fun l=>F32 (l,()) () ()) (by kernel_rfl) (fun l=>by kernel_rfl)
def TV:da:=⟨[(true,(.pair (.int .i64) (.pair (.int .i64) (.pair (.int .i64) (.int .i64))))),(false,(.aF (.aF (.pair (.int .u8) (.pair (.int .i64) (.int .i64)))))),(false,(.aF (.aF (.pair (.int .u8) (.pair (.int .u8) (.pair (.int .u8) (.pair (.int .u8) (.pair (.int .i64) (.pair (.int .i64) (.int .i64))))))))))],[(false,(.ptr 0)),(false,(.int .i64))],[(7,R7)],[(0,R0),(1,R1),(2,R2),(3,R3),(4,R4),(5,R5),(6,R6),(8,R8),(9,R9)]⟩
def g.jV (a0:U4) (a2:(List qo)) (d0:T0) (v0:(((Option Nat)×((Option Nat)×(Int×Unit)))×(T1×(T2×m8)))) (v1:((Int×Unit)×(Unit×(Unit×(Unit×(T0×(T9×Unit))))))) (k:(((Int×Unit)×(Unit×(Unit×(Unit×(T0×(T5×(T6×(T2×Unit))))))))→xR)) (s:((Int×Unit)×(Unit×(Unit×(Unit×(T0×(T5×(T6×(T2×Unit))))))))):xR:=(br (aQ s.1.1 a0.2.1) (jn (fun (k0:(Unit×(Unit×(Unit×(Unit×(T6×Unit)))))→_)=>(br (aQ s.1.1 (zN (len a2))) (gd (bn s.1.1) (gd (bu (nN s.1.1) (len a2)) (bd (g.gp (nth [] a2 (nN s.1.1))) (fun p1=>(k0 ((),((),((),((),((ah aG (cat s.2.2.2.2.2.2.1 [([],((some (len s.2.2.2.2.2.2.2.1)),([],(((0,(0,(0,(0,(0,(0,0)))))),(0,(0,(0,(0,([],(0,(0,(0,(0,([],(0,([],(0,(false,(false,(false,(0,(0,[]))))))))))))))))))),(false,0)))))]) (len s.2.2.2.2.2.2.1) (fun r2=>(p1.1.1,r2.2))),())))))))))) (k0 ((),((),((),((),((cat s.2.2.2.2.2.2.1 [([],((some (len s.2.2.2.2.2.2.2.1)),([],(((0,(0,(0,(0,(0,(0,0)))))),(0,(0,(0,(0,([],(0,(0,(0,(0,([],(0,([],(0,(false,(false,(false,(0,(0,[]))))))))))))))))))),(false,0)))))]),())))))))) (fun (s3:(Unit×(Unit×(Unit×(Unit×(T6×Unit))))))=>(opt (nth bA s.2.2.2.2.1 (len d0)).2.2.2.2.1 (gd (bp (len [(some (len s.2.2.2.2.2.2.1))]) 16777216) (k (((ae .i64 s.1.1 1),()),((),((),((),((ah bA s.2.2.2.2.1 (len d0) (fun r4=>(r4.1,(r4.2.1,(r4.2.2.1,(r4.2.2.2.1,((some (len s.2.2.2.2.2.1)),r4.2.2.2.2.2))))))),((cat s.2.2.2.2.2.1 [(some [(some (len s.2.2.2.2.2.2.1))])]),(s3.2.2.2.2.1,((cat s.2.2.2.2.2.2.2.1 [(some (rep (α:=Int) 4 0))]),())))))))))) (fun p5=>(bd (aT s.2.2.2.2.2.1 p5) (fun p6=>(gd (bp (aK (len p6) (len [(some (len s.2.2.2.2.2.2.1))])) 16777216) (gd (bu p5 (len s.2.2.2.2.2.1)) (k (((ae .i64 s.1.1 1),()),((),((),((),((ah bA s.2.2.2.2.1 (len d0) (fun r7=>(r7.1,(r7.2.1,(r7.2.2.1,(r7.2.2.2.1,((some (len (upd s.2.2.2.2.2.1 p5 none))),r7.2.2.2.2.2))))))),((cat (upd s.2.2.2.2.2.1 p5 none) [(some (cat p6 [(some (len s.2.2.2.2.2.2.1))]))]),(s3.2.2.2.2.1,((cat s.2.2.2.2.2.2.2.1 [(some (rep (α:=Int) 4 0))]),()))))))))))))))))) (some (((some (len d0)),(0,())),(s.2.2.2.2.1,(v0.2.1,(v0.2.2.1,(v0.2.2.2.1,(v0.2.2.2.2.1,(s.2.2.2.2.2.1,(s.2.2.2.2.2.2.1,(s.2.2.2.2.2.2.2.1,(v1.2.2.2.2.2.1,()))))))))))))
def g.dA (a0:U4) (a1:(List lI)) (a2:(List qo)) (d0:T0) (d5:T5) (d6:T6) (d7:T2) (v0:(((Option Nat)×((Option Nat)×(Int×Unit)))×(T1×(T2×m8)))) (k:(((Int×Unit)×(Unit×(Unit×(Unit×(T0×(T9×Unit))))))→xR)) (s:((Int×Unit)×(Unit×(Unit×(Unit×(T0×(T9×Unit))))))):xR:=(br (aQ s.1.1 (zN (len a1))) (gd (bn s.1.1) (gd (bu (nN s.1.1) (len a1)) (opt (nth bA s.2.2.2.2.1 (len d0)).2.1 (bd (g.eW (nth [] a1 (nN s.1.1))) (fun p0=>(gd (bp (len [p0.1.1]) 16777216) (k (((ae .i64 s.1.1 1),()),((),((),((),((ah bA s.2.2.2.2.1 (len d0) (fun r1=>(r1.1,((some (len s.2.2.2.2.2.1)),r1.2.2)))),((cat s.2.2.2.2.2.1 [(some [p0.1.1])]),())))))))))) (fun p2=>(bd (g.eW (nth [] a1 (nN s.1.1))) (fun p3=>(bd (aT s.2.2.2.2.2.1 p2) (fun p4=>(gd (bp (aK (len p4) (len [p3.1.1])) 16777216) (gd (bu p2 (len s.2.2.2.2.2.1)) (k (((ae .i64 s.1.1 1),()),((),((),((),((ah bA s.2.2.2.2.1 (len d0) (fun r5=>(r5.1,((some (len (upd s.2.2.2.2.2.1 p2 none))),r5.2.2)))),((cat (upd s.2.2.2.2.2.1 p2 none) [(some (cat p4 [p3.1.1]))]),()))))))))))))))))) (loop (g.jV a0 a2 d0 v0 s) ((0,()),((),((),((),(s.2.2.2.2.1,(d5,(d6,(d7,()))))))))))
def g.jU (a2:(List qo)) (d0:T0) (d1:T1) (d2:T2) (d3:T3) (d4:T4) (d5:T5) (d6:T6) (d7:T2) (d8:T9) (v0:(Unit×U2)→xR) (k:(gE→xR)) (s:gE):xR:=(br (aQ s.1.1 (zN (len a2))) (gd (bn s.1.1) (gd (bu (nN s.1.1) (len a2)) (br (aQ 64 (zN (len (nth [] a2 (nN s.1.1))))) (br (cP 0 s.1.1) (some ((none,(1,())),(d0,(d1,(d2,(d3,(d4,(d5,(d6,(d7,(d8,()))))))))))) (v0 ((),((),((),((),())))))) (k (((ae .i64 s.1.1 1),()),((),((),((),())))))))) (v0 ((),((),((),((),()))))))
def g.jb (a0:U4) (a1:(List lI)) (a2:(List qo)) (c0:T7) (d0:T0) (d1:T1) (d2:T2) (d3:T3) (d4:T4) (d5:T5) (d6:T6) (d7:T2) (d8:T9):xR:=(jn (fun (k0:(Unit×U2)→_)=>(bd (g.fh a0) (fun p1=>(br (az p1.1.1) (some ((none,(1,())),(d0,(d1,(d2,(d3,(d4,(d5,(d6,(d7,(d8,()))))))))))) (bd (g.ke a1) (fun p2=>(br (az p2.1.1) (some ((none,(1,())),(d0,(d1,(d2,(d3,(d4,(d5,(d6,(d7,(d8,()))))))))))) (br (aQ a0.2.1 (zN (len a2))) (some ((none,(1,())),(d0,(d1,(d2,(d3,(d4,(d5,(d6,(d7,(d8,()))))))))))) (loop (g.jU a2 d0 d1 d2 d3 d4 d5 d6 d7 d8 k0) ((0,()),((),((),((),()))))))))))))) (fun (s5:(Unit×U2))=>(bd (g.kc a0 d1 d2 d3 d4) (fun p6=>(opt p6.1.1 (opt p6.1.2.1 (loop (g.dA a0 a1 a2 d0 d5 d6 d7 p6) ((0,()),((),((),((),((cat d0 [(a0,(none,(none,(none,(none,(none,0))))))]),(d8,()))))))) (fun dT=>(loop (g.dA a0 a1 a2 d0 d5 d6 d7 p6) ((0,()),((),((),((),((cat d0 [(a0,(none,(none,((some dT),(none,(none,0))))))]),(d8,()))))))))) (fun wz=>(opt p6.1.2.1 (loop (g.dA a0 a1 a2 d0 d5 d6 d7 p6) ((0,()),((),((),((),((cat d0 [(a0,(none,((some wz),(none,(none,(none,0))))))]),(d8,()))))))) (fun BS=>(loop (g.dA a0 a1 a2 d0 d5 d6 d7 p6) ((0,()),((),((),((),((cat d0 [(a0,(none,((some wz),((some BS),(none,(none,0))))))]),(d8,())))))))))))))))
def F11:Plain TV:=fun x c d=>g.jb x.1 x.2.1 x.2.2.1 c.1 d.1 d.2.1 d.2.2.1 d.2.2.2.1 d.2.2.2.2.1 d.2.2.2.2.2.1 d.2.2.2.2.2.2.1 d.2.2.2.2.2.2.2.1 d.2.2.2.2.2.2.2.2.1
theorem X4:bj Tryz.prog 11 TV F11:=bD (ao N8 (ao adp (ao ado (ao adn (ao adm (aH)))))) fun x c d=>by kernel_rfl
def TH:da:=⟨[(false,(.cY 6))],[(false,.bool)],[(6,R6),(8,R8)],[]⟩
def g.bf (a0:Nat) (c0:T6) (c1:T2):mF:=(br (az (nth aG c0 a0).2.2.2.2.1) (some (((ak (zN (len (nth aG c0 a0).1)) 0),()),())) (some ((false,()),())))
def F37:Plain TH:=fun x c d=>g.bf x.1 c.1 c.2.1
theorem Xx:bj Tryz.prog 37 TH F37:=bD (aH) fun x c d=>by kernel_rfl
def MA:da:=⟨[(false,(.cY 0))],[(false,(.aF (.int .i64)))],[(0,R0),(1,R1),(2,R2),(3,R3),(4,R4),(5,R5),(6,R6),(7,R7),(8,R8),(9,R9)],[]⟩
def g.fy (c5:T5) (c6:T6) (c8:T2) (v0:T1) (v1:Nat) (k:(((Int×Unit)×(mE×nB))→(Option (mE×Unit)))) (s:((Int×Unit)×(mE×nB))):(Option (mE×Unit)):=(br (aQ s.1.1 (zN (len v0))) (bd (aT c5 v1) (fun p0=>(gd (bn s.1.1) (gd (bu (nN s.1.1) (len p0)) (bd (aT c5 v1) (fun p1=>(opt (nth none p1 (nN s.1.1)) none (fun p2=>(bd (g.bf p2 c6 c8) (fun p3=>(br p3.1.1 (k (((ae .i64 s.1.1 1),()),((s.2.1.1,()),((),((),()))))) (gd (bp (aK (len s.2.1.1) (len [s.1.1])) 16777216) (k (((ae .i64 s.1.1 1),()),(((cat s.2.1.1 [s.1.1]),()),((),((),()))))))))))))))))) (some ((s.2.1.1,()),())))
def g.ib (k:(((Int×Unit)×(mE×nB))→(Option (mE×Unit)))) (s:((Int×Unit)×(mE×nB))):(Option (mE×Unit)):=(br (aQ s.1.1 0) none (some ((s.2.1.1,()),())))
def g.cV (a0:Nat) (c0:T0) (c1:T1) (c2:T2) (c3:T3) (c4:T4) (c5:T5) (c6:T6) (c7:T7) (c8:T2) (c9:T9):(Option (mE×Unit)):=(opt (nth bA c0 a0).2.2.2.2.1 (loop g.ib ((0,()),(([],()),((),((),()))))) (fun p2=>(bd (aT c5 p2) (fun p3=>(loop (g.fy c5 c6 c8 p3 p2) ((0,()),(([],()),((),((),())))))))))
def Yh:Plain MA:=fun x c d=>g.cV x.1 c.1 c.2.1 c.2.2.1 c.2.2.2.1 c.2.2.2.2.1 c.2.2.2.2.2.1 c.2.2.2.2.2.2.1 c.2.2.2.2.2.2.2.1 c.2.2.2.2.2.2.2.2.1 c.2.2.2.2.2.2.2.2.2.1
theorem N9:bj Tryz.prog 17 MA Yh:=bD (ao Xx (aH)) fun x c d=>by kernel_rfl
def Tt:da:=⟨[(false,(.aF (.pair (.int .i64) .bool)))],[(false,(.int .i64))],[],[]⟩
def g.cB (a0:nZ):pP:=(br (ak (zN (len a0)) 0) (some ((0,()),())) (gd (bn (aE .i64 (zN (len a0)) 1)) (gd (bu (nN (aE .i64 (zN (len a0)) 1)) (len a0)) (some (((nth (0,false) a0 (nN (aE .i64 (zN (len a0)) 1))).1,()),())))))
def F56:Plain Tt:=fun x c d=>g.cB x.1
theorem Xu:bj Tryz.prog 56 Tt F56:=bD (aH) fun x c d=>by kernel_rfl
def Tq:da:=⟨[(false,(.aF (.pair (.int .i64) .bool)))],[(false,(.aF (.pair (.int .i64) .bool)))],[],[]⟩
def g.bE (a0:nZ):(Option ((nZ×Unit)×Unit)):=(gd (bp (aK 0 (len a0)) 16777216) (some (((cat [] a0),()),())))
def F57:Plain Tq:=fun x c d=>g.bE x.1
theorem Xs:bj Tryz.prog 57 Tq F57:=vl (sr xl mixed FG (hm:=homes) (aH) 8) (t:=(.pair (.int .i64) .bool)) (rs:=[(false,.aF (.pair (.int .i64) .bool))]) (F:=fun l=>F57 (l,()) () ()) (by kernel_rfl) (fun l=>by kernel_rfl)
def Tf:da:=⟨[(false,(.aF (.pair (.int .i64) .bool))),(true,(.pair (.int .i64) .bool))],[(false,(.aF (.pair (.int .i64) .bool))),(false,(.int .i64))],[],[]⟩
def g.bQ (a0:nZ) (a1:(Int×Bool)):(Option ((nZ×(Int×Unit))×Unit)):=(br (cP 6 (zN (len a0))) (some (([],(24,())),())) (gd (bn (ae .i64 (zN (len a0)) 1)) (gd (bp (nN (ae .i64 (zN (len a0)) 1)) 16777216) (gd (bu 0 (len (rep (α:=(Int×Bool)) (nN (ae .i64 (zN (len a0)) 1)) (0,false)))) (gd (bp (len a0) (len (rep (α:=(Int×Bool)) (nN (ae .i64 (zN (len a0)) 1)) (0,false)))) (gd (bn (zN (len a0))) (gd (bu (nN (zN (len a0))) (len (cat a0 (dr (len a0) (rep (α:=(Int×Bool)) (nN (ae .i64 (zN (len a0)) 1)) (0,false)))))) (some (((upd (cat a0 (dr (len a0) (rep (α:=(Int×Bool)) (nN (ae .i64 (zN (len a0)) 1)) (0,false)))) (nN (zN (len a0))) a1),(0,())),())))))))))
def F67:Plain Tf:=fun x c d=>g.bQ x.1 x.2.1
theorem Xr:bj Tryz.prog 67 Tf F67:=bD (aH) fun x c d=>by kernel_rfl
def Te:da:=⟨[(false,(.aF (.pair (.int .i64) .bool)))],[(false,(.aF (.pair (.int .i64) .bool))),(true,(.pair (.int .i64) .bool)),(false,(.int .i64))],[],[]⟩
def g.iD (a0:nZ):(Option ((nZ×((Int×Bool)×(Int×Unit)))×Unit)):=(br (aQ (aE .i64 (zN (len a0)) 1) 0) (some (([],((0,false),(23,()))),())) (gd (bn (aE .i64 (zN (len a0)) 1)) (gd (bp 0 (nN (aE .i64 (zN (len a0)) 1))) (gd (bp (nN (aE .i64 (zN (len a0)) 1)) (len a0)) (bd (g.bE (tk (ay (nN (aE .i64 (zN (len a0)) 1)) 0) (dr 0 a0))) (fun p0=>(gd (bn (aE .i64 (zN (len a0)) 1)) (gd (bu (nN (aE .i64 (zN (len a0)) 1)) (len a0)) (some ((p0.1.1,((nth (0,false) a0 (nN (aE .i64 (zN (len a0)) 1))),(0,()))),()))))))))))
def F68:Plain Te:=fun x c d=>g.iD x.1
theorem Xq:bj Tryz.prog 68 Te F68:=bD (ao Xs (aH)) fun x c d=>by kernel_rfl
def Ln:da:=⟨[(false,(.aF (.pair (.int .i64) .bool))),(false,(.int .i64))],[(false,(.int .i64))],[],[]⟩
def g.iC (a0:nZ) (a1:Int) (k:(gE→pP)) (s:gE):pP:=(br (aQ s.1.1 (zN (len a0))) (gd (bn s.1.1) (gd (bu (nN s.1.1) (len a0)) (br (mZ (ak a1 (nth (0,false) a0 (nN s.1.1)).1) (mZ (qP true (nth (0,false) a0 (nN s.1.1)).2) true)) (some ((s.1.1,()),())) (k (((ae .i64 s.1.1 1),()),((),((),((),())))))))) (some (((-1),()),())))
def g.kC (a0:nZ) (a1:Int):pP:=(loop (g.iC a0 a1) ((0,()),((),((),((),())))))
def aes:Plain Ln:=fun x c d=>g.kC x.1 x.2.1
theorem Mc:bj Tryz.prog 128 Ln aes:=bD (aH) fun x c d=>by kernel_rfl
def S8:da:=⟨[(false,(.aF (.pair (.int .i64) .bool))),(false,(.int .i64))],[(false,.bool)],[],[]⟩
def g.bc (a0:nZ) (a1:Int):mF:=(br (ak a1 0) (some ((true,()),())) (bd (g.kC a0 a1) (fun p0=>(some (((cP 0 p0.1.1),()),())))))
def F85:Plain S8:=fun x c d=>g.bc x.1 x.2.1
theorem Xp:bj Tryz.prog 85 S8 F85:=bD (ao Mc (aH)) fun x c d=>by kernel_rfl
def Lc:da:=⟨[(true,(.pair (.int .i64) (.pair (.int .i64) (.int .i64))))],[(false,(.int .u64)),(false,(.int .i64))],[],[]⟩
def g.mH (a0:(Int×(Int×Int))):(Option (ja×Unit)):=(jn (fun (k0:(Unit×U2)→_)=>(bd (g.ab a0.1 0 7) (fun p1=>(br (az p1.1.1) (some ((0,(1,())),())) (bd (g.ab a0.2.1 0 16777215) (fun p2=>(br (az p2.1.1) (some ((0,(1,())),())) (bd (g.ab a0.2.2 8 65528) (fun p3=>(br (az p3.1.1) (some ((0,(1,())),())) (br (az (ak (cq a0.2.2 8) 0)) (some ((0,(1,())),())) (k0 ((),((),((),((),())))))))))))))))) (fun (s4:(Unit×U2))=>(some (((bits .or .u64 (bits .or .u64 (cS .u64 (mv .i64 a0.2.2 8)) (lU .u64 (cS .u64 a0.1) 24)) (lU .u64 (cS .u64 a0.2.1) 32)),(0,())),()))))
def aei:Plain Lc:=fun x c d=>g.mH x.1
theorem Ma:bj Tryz.prog 144 Lc aei:=bD (ao mA (aH)) fun x c d=>by kernel_rfl
def Lm:da:=⟨[(false,(.int .u64))],[(true,(.pair (.int .i64) (.pair (.int .i64) (.int .i64)))),(false,(.int .i64))],[],[]⟩
def g.fS (a0:Int):(Option (((Int×(Int×Int))×(Int×Unit))×Unit)):=(bd (g.mH ((cS .i64 (bits .and .u64 (j0 .u64 a0 24) 255)),((cS .i64 (j0 .u64 a0 32)),(cm .i64 (cS .i64 (bits .and .u64 a0 16777215)) 8)))) (fun p0=>(br (az (ak p0.1.2.1 0)) (some (((0,(0,0)),(18,())),())) (br (az (ak p0.1.1 a0)) (some (((0,(0,0)),(18,())),())) (br (mZ (ak (cS .i64 (bits .and .u64 (j0 .u64 a0 24) 255)) 0) (mZ (ak (cS .i64 (j0 .u64 a0 32)) 0) (mZ (ak (cm .i64 (cS .i64 (bits .and .u64 a0 16777215)) 8) 0) true))) (some (((0,(0,0)),(18,())),())) (some ((((cS .i64 (bits .and .u64 (j0 .u64 a0 24) 255)),((cS .i64 (j0 .u64 a0 32)),(cm .i64 (cS .i64 (bits .and .u64 a0 16777215)) 8))),(0,())),())))))))
def aer:Plain Lm:=fun x c d=>g.fS x.1
theorem Mb:bj Tryz.prog 129 Lm aer:=bD (ao Ma (aH)) fun x c d=>by kernel_rfl
def S7:da:=⟨[(true,(.pair (.int .i64) (.pair (.int .i64) (.pair (.int .i64) (.int .i64))))),(false,(.aF (.pair (.int .i64) .bool))),(false,(.int .u64))],[(true,(.pair (.int .i64) (.pair (.int .i64) (.int .i64)))),(false,(.int .i64))],[],[]⟩
def g.cE (a0:U4) (a1:nZ) (a2:Int):(Option (((Int×(Int×Int))×(Int×Unit))×Unit)):=(bd (g.fS a2) (fun p0=>(jn (fun (k1:iV→_)=>(br (az (ak p0.1.2.1 0)) (k1 ((true,()),((),((),((),()))))) (k1 (((cP a0.1 p0.1.1.1),()),((),((),((),()))))))) (fun (s2:iV)=>(br s2.1.1 (some (((0,(0,0)),(18,())),())) (bd (g.bc a1 p0.1.1.1) (fun p3=>(br (az p3.1.1) (some (((0,(0,0)),(20,())),())) (some ((p0.1.1,(0,())),()))))))))))
def F89:Plain S7:=fun x c d=>g.cE x.1 x.2.1 x.2.2.1
theorem Xo:bj Tryz.prog 89 S7 F89:=bD (ao Xp (ao Mb (aH))) fun x c d=>by kernel_rfl
def S6:da:=⟨[(false,(.aF (.int .u8)))],[(false,.bool)],[],[]⟩
def g.iQ (a0:(List Int)) (k:(gE→mF)) (s:gE):mF:=(br (aQ s.1.1 (zN (len a0))) (gd (bn s.1.1) (gd (bu (nN s.1.1) (len a0)) (br (cP 4 (nth 0 a0 (nN s.1.1))) (some (((az (cP 0 s.1.1)),()),())) (k (((ae .i64 s.1.1 1),()),((),((),((),())))))))) (some ((true,()),())))
def g.bM (a0:(List Int)):mF:=(loop (g.iQ a0) ((0,()),((),((),((),())))))
def F90:Plain S6:=fun x c d=>g.bM x.1
theorem ac5:bj Tryz.prog 90 S6 F90:=bD (aH) fun x c d=>by kernel_rfl
def S4:da:=⟨[(false,(.aF (.int .i64)))],[(false,(.int .i64))],[],[]⟩
def g.iR (a0:(List Int)) (k:(gE→pP)) (s:gE):pP:=(br (aQ s.1.1 (zN (len a0))) (gd (bn s.1.1) (gd (bu (nN s.1.1) (len a0)) (br (az (ak (nth 0 a0 (nN s.1.1)) 0)) (some (((nth 0 a0 (nN s.1.1)),()),())) (k (((ae .i64 s.1.1 1),()),((),((),((),())))))))) (some ((0,()),())))
def g.aw (a0:(List Int)):pP:=(loop (g.iR a0) ((0,()),((),((),((),())))))
def F91:Plain S4:=fun x c d=>g.aw x.1
theorem ac4:bj Tryz.prog 91 S4 F91:=bD (aH) fun x c d=>by kernel_rfl
def Lg:da:=⟨[(false,(.int .i64)),(false,(.int .i64))],[(false,(.int .i64)),(false,(.int .i64))],[],[]⟩
def g.nq (a0:Int) (a1:Int):(Option (ja×Unit)):=(br (az (qP (aQ a0 (ae .i64 a0 a1)) (aQ 0 a1))) (some ((0,(3,())),())) (some (((ae .i64 a0 a1),(0,())),())))
def ael:Plain Lg:=fun x c d=>g.nq x.1 x.2.1
theorem XU:bj Tryz.prog 137 Lg ael:=bD (aH) fun x c d=>by kernel_rfl
def SW:da:=⟨[(false,(.int .i64))],[(false,(.int .i64)),(false,(.int .i64))],[],[]⟩
def g.ot (a0:Int):(Option (ja×Unit)):=(br (aQ a0 0) (some ((0,(1,())),())) (bd (g.nq a0 7) (fun p0=>(br (az (ak p0.1.2.1 0)) (some ((0,(p0.1.2.1,())),())) (some (((bits .andNot .i64 p0.1.1 7),(0,())),()))))))
def F95:Plain SW:=fun x c d=>g.ot x.1
theorem Xm:bj Tryz.prog 95 SW F95:=bD (ao XU (aH)) fun x c d=>by kernel_rfl
def Ll:da:=⟨[(false,(.int .i64))],[(false,(.int .i64)),(false,(.int .i64))],[],[]⟩
def g.np (a0:Int):(Option (ja×Unit)):=(bd (g.ot a0) (fun p0=>(some (((mv .i64 p0.1.1 8),(p0.1.2.1,())),()))))
def aeq:Plain Ll:=fun x c d=>g.np x.1
theorem XX:bj Tryz.prog 132 Ll aeq:=bD (ao Xm (aH)) fun x c d=>by kernel_rfl
def SZ:da:=⟨[(false,(.int .i64)),(false,(.int .i64))],[(false,(.int .i64)),(false,(.int .i64))],[],[]⟩
def g.gR (a0:Int) (a1:Int):(Option (ja×Unit)):=(jn (fun (k0:(Unit×U2)→_)=>(bd (g.ab a0 0 6) (fun p1=>(br (az p1.1.1) (some ((0,(1,())),())) (bd (g.ab a1 0 512) (fun p2=>(br (az p2.1.1) (some ((0,(1,())),())) (k0 ((),((),((),((),())))))))))))) (fun (s3:(Unit×U2))=>(bd (g.np a1) (fun p4=>(some (((ae .i64 (ae .i64 2 a0) p4.1.1),(p4.1.2.1,())),()))))))
def F92:Plain SZ:=fun x c d=>g.gR x.1 x.2.1
theorem Xn:bj Tryz.prog 92 SZ F92:=bD (ao mA (ao XX (aH))) fun x c d=>by kernel_rfl
def Tp:da:=⟨[(true,(.pair (.pair (.int .i64) (.pair (.int .i64) (.pair (.int .i64) (.int .i64)))) (.pair (.aF (.pair (.int .i64) .bool)) (.pair (.pair (.int .u8) (.pair (.int .u8) (.pair (.int .u8) (.pair (.int .u8) (.pair (.int .i64) (.pair (.int .i64) (.int .i64))))))) (.pair (.int .u64) (.int .u64))))))],[(false,(.int .i64))],[],[]⟩
def g.bC (a0:(U4×(nZ×((Int×(Int×(Int×U4)))×(Int×Int))))):pP:=(br (ak a0.2.2.1.1 0) (some ((0,()),())) (br (ak a0.2.2.1.1 1) (bd (g.bM [a0.2.2.1.2.1]) (fun p0=>(br (az p0.1.1) (some ((1,()),())) (some ((0,()),()))))) (br (ak a0.2.2.1.1 2) (bd (g.ab a0.2.2.1.2.2.2.2.1 1 8192) (fun p1=>(br (az p1.1.1) (some ((1,()),())) (some ((0,()),()))))) (br (ak a0.2.2.1.1 3) (bd (g.ab a0.2.2.1.2.2.2.2.1 1 (aE .i64 a0.1.1 1)) (fun p2=>(br (az p2.1.1) (some ((11,()),())) (some ((0,()),()))))) (br (ak a0.2.2.1.1 4) (bd (g.ab a0.2.2.1.2.2.2.2.1 1 (aE .i64 a0.1.1 1)) (fun p3=>(br (az p3.1.1) (bd (g.bQ a0.2.1 (0,false)) (fun p4=>(bd (g.aw [11,p4.1.2.1]) (fun p5=>(some ((p5.1.1,()),())))))) (bd (g.bQ a0.2.1 (0,false)) (fun p6=>(bd (g.aw [0,p6.1.2.1]) (fun p7=>(some ((p7.1.1,()),()))))))))) (br (ak a0.2.2.1.1 6) (bd (g.ab a0.2.2.1.2.2.2.2.1 0 (aE .i64 a0.1.1 1)) (fun p8=>(br (az p8.1.1) (bd (g.bc a0.2.1 a0.2.2.1.2.2.2.2.1) (fun p9=>(br (az p9.1.1) (bd (g.bQ a0.2.1 (0,false)) (fun gI=>(bd (g.aw [11,20,gI.1.2.1]) (fun kV=>(some ((kV.1.1,()),())))))) (bd (g.bQ a0.2.1 (0,false)) (fun cA=>(bd (g.aw [11,0,cA.1.2.1]) (fun cb=>(some ((cb.1.1,()),()))))))))) (bd (g.bc a0.2.1 a0.2.2.1.2.2.2.2.1) (fun iB=>(br (az iB.1.1) (bd (g.bQ a0.2.1 (0,false)) (fun dI=>(bd (g.aw [0,20,dI.1.2.1]) (fun eZ=>(some ((eZ.1.1,()),())))))) (bd (g.bQ a0.2.1 (0,false)) (fun gy=>(bd (g.aw [0,0,gy.1.2.1]) (fun fL=>(some ((fL.1.1,()),())))))))))))) (br (ak a0.2.2.1.1 5) (bd (g.iD a0.2.1) (fun kF=>(some ((kF.1.2.2.1,()),())))) (br (ak a0.2.2.1.1 7) (bd (g.gR a0.2.2.1.2.2.2.2.1 a0.2.2.1.2.2.2.2.2.1) (fun dT=>(bd (g.bM [a0.2.2.1.2.1]) (fun mu=>(br mu.1.1 (bd (g.ab a0.2.2.1.2.2.2.2.2.2 0 7) (fun jh=>(br (az jh.1.1) (bd (g.aw [1,dT.1.2.1]) (fun fk=>(some ((fk.1.1,()),())))) (bd (g.aw [0,dT.1.2.1]) (fun jX=>(some ((jX.1.1,()),()))))))) (bd (g.aw [1,dT.1.2.1]) (fun fq=>(some ((fq.1.1,()),()))))))))) (br (ak a0.2.2.1.1 8) (bd (g.bM [a0.2.2.1.2.1,a0.2.2.1.2.2.1]) (fun eN=>(br (az eN.1.1) (bd (g.cE a0.1 a0.2.1 a0.2.2.2.1) (fun mr=>(bd (g.aw [1,mr.1.2.1]) (fun mD=>(some ((mD.1.1,()),())))))) (bd (g.cE a0.1 a0.2.1 a0.2.2.2.1) (fun jS=>(bd (g.aw [0,jS.1.2.1]) (fun MW=>(some ((MW.1.1,()),()))))))))) (br (ak a0.2.2.1.1 9) (bd (g.bM [a0.2.2.1.2.2.1,a0.2.2.1.2.2.2.1]) (fun Ug=>(br (az Ug.1.1) (bd (g.cE a0.1 a0.2.1 a0.2.2.2.1) (fun HY=>(bd (g.aw [1,HY.1.2.1]) (fun HX=>(some ((HX.1.1,()),())))))) (bd (g.cE a0.1 a0.2.1 a0.2.2.2.1) (fun wz=>(bd (g.aw [0,wz.1.2.1]) (fun p35=>(some ((p35.1.1,()),()))))))))) (br (ak a0.2.2.1.1 10) (bd (g.bM [a0.2.2.1.2.1]) (fun MV=>(br (az MV.1.1) (bd (g.ab a0.2.2.1.2.2.2.2.1 1 (aE .i64 a0.1.1 1)) (fun MU=>(br (az MU.1.1) (bd (g.bc a0.2.1 a0.2.2.1.2.2.2.2.1) (fun MT=>(br (az MT.1.1) (bd (g.aw [1,11,20]) (fun MS=>(some ((MS.1.1,()),())))) (bd (g.aw [1,11,0]) (fun HW=>(some ((HW.1.1,()),()))))))) (bd (g.bc a0.2.1 a0.2.2.1.2.2.2.2.1) (fun MR=>(br (az MR.1.1) (bd (g.aw [1,0,20]) (fun MQ=>(some ((MQ.1.1,()),())))) (bd (g.aw [1,0,0]) (fun bW=>(some ((bW.1.1,()),())))))))))) (bd (g.ab a0.2.2.1.2.2.2.2.1 1 (aE .i64 a0.1.1 1)) (fun MP=>(br (az MP.1.1) (bd (g.bc a0.2.1 a0.2.2.1.2.2.2.2.1) (fun p45=>(br (az p45.1.1) (bd (g.aw [0,11,20]) (fun BU=>(some ((BU.1.1,()),())))) (bd (g.aw [0,11,0]) (fun BT=>(some ((BT.1.1,()),()))))))) (bd (g.bc a0.2.1 a0.2.2.1.2.2.2.2.1) (fun BS=>(br (az BS.1.1) (bd (g.aw [0,0,20]) (fun MO=>(some ((MO.1.1,()),())))) (bd (g.aw [0,0,0]) (fun HV=>(some ((HV.1.1,()),()))))))))))))) (br (ak a0.2.2.1.1 11) (jn (fun (uN:gE→_)=>(bd (g.bM [a0.2.2.1.2.2.2.1]) (fun HR=>(br (az HR.1.1) (bd (g.ab a0.2.2.1.2.2.2.2.1 1 (aE .i64 a0.1.1 1)) (fun Em=>(br (az Em.1.1) (bd (g.bc a0.2.1 a0.2.2.1.2.2.2.2.1) (fun BR=>(br (az BR.1.1) (bd (g.aw [1,11,20]) (fun xM=>(uN ((xM.1.1,()),((),((),((),()))))))) (bd (g.aw [1,11,0]) (fun wy=>(uN ((wy.1.1,()),((),((),((),())))))))))) (bd (g.bc a0.2.1 a0.2.2.1.2.2.2.2.1) (fun GZ=>(br (az GZ.1.1) (bd (g.aw [1,0,20]) (fun Ae=>(uN ((Ae.1.1,()),((),((),((),()))))))) (bd (g.aw [1,0,0]) (fun BQ=>(uN ((BQ.1.1,()),((),((),((),()))))))))))))) (bd (g.ab a0.2.2.1.2.2.2.2.1 1 (aE .i64 a0.1.1 1)) (fun Ek=>(br (az Ek.1.1) (bd (g.bc a0.2.1 a0.2.2.1.2.2.2.2.1) (fun Uf=>(br (az Uf.1.1) (bd (g.aw [0,11,20]) (fun Ue=>(uN ((Ue.1.1,()),((),((),((),()))))))) (bd (g.aw [0,11,0]) (fun uA=>(uN ((uA.1.1,()),((),((),((),())))))))))) (bd (g.bc a0.2.1 a0.2.2.1.2.2.2.2.1) (fun p64=>(br (az p64.1.1) (bd (g.aw [0,0,20]) (fun sS=>(uN ((sS.1.1,()),((),((),((),()))))))) (bd (g.aw [0,0,0]) (fun HQ=>(uN ((HQ.1.1,()),((),((),((),()))))))))))))))))) (fun (MD:gE)=>(br (ak MD.1.1 0) (br (az (ak a0.2.2.2.2 0)) (bd (g.cE a0.1 a0.2.1 a0.2.2.2.2) (fun MN=>(some ((MN.1.2.1,()),())))) (some ((MD.1.1,()),()))) (some ((MD.1.1,()),()))))) (some ((1,()),()))))))))))))))
def F58:Plain Tp:=fun x c d=>g.bC x.1
theorem ade:bj Tryz.prog 58 Tp F58:=bD (ao mA (ao Xr (ao Xq (ao Xp (ao Xo (ao ac5 (ao ac4 (ao Xn (aH))))))))) fun x c d=>by kernel_rfl
def Tn:da:=⟨[(true,(.pair (.pair (.int .i64) (.pair (.int .i64) (.pair (.int .i64) (.int .i64)))) (.pair (.aF (.pair (.int .i64) .bool)) (.pair (.pair (.int .u8) (.pair (.int .u8) (.pair (.int .u8) (.pair (.int .u8) (.pair (.int .i64) (.pair (.int .i64) (.int .i64))))))) (.pair (.int .u64) (.int .u64))))))],[(false,(.int .i64))],[],[]⟩
def g.cy (a0:(U4×(nZ×((Int×(Int×(Int×U4)))×(Int×Int))))):pP:=(jn (fun (k0:iV→_)=>(br (ak a0.2.2.1.1 2) (k0 ((true,()),((),((),((),()))))) (k0 (((ak a0.2.2.1.1 3),()),((),((),((),()))))))) (fun (s1:iV)=>(br s1.1.1 (some ((1,()),())) (br (ak a0.2.2.1.1 4) (some ((13,()),())) (br (ak a0.2.2.1.1 5) (gd (bn (aE .i64 (zN (len a0.2.1)) 1)) (gd (bu (nN (aE .i64 (zN (len a0.2.1)) 1)) (len a0.2.1)) (br (nth (0,false) a0.2.1 (nN (aE .i64 (zN (len a0.2.1)) 1))).2 (some ((15,()),())) (some ((0,()),()))))) (jn (fun (k2:iV→_)=>(br (ak a0.2.2.1.1 7) (k2 ((true,()),((),((),((),()))))) (br (ak a0.2.2.1.1 8) (k2 ((true,()),((),((),((),()))))) (k2 (((ak a0.2.2.1.1 9),()),((),((),((),())))))))) (fun (s3:iV)=>(br s3.1.1 (some ((5,()),())) (br (ak a0.2.2.1.1 10) (some ((11,()),())) (br (ak a0.2.2.1.1 11) (br (ak a0.2.2.2.2 0) (some ((12,()),())) (some ((7,()),()))) (some ((0,()),()))))))))))))
def F59:Plain Tn:=fun x c d=>g.cy x.1
theorem adb:bj Tryz.prog 59 Tn F59:=bD (aH) fun x c d=>by kernel_rfl
def TF:da:=⟨[(true,(.pair (.int .i64) (.pair (.int .i64) (.pair (.int .i64) (.int .i64))))),(false,(.je 8 1)),(false,(.aF (.pair (.int .i64) .bool))),(true,(.pair (.int .u8) (.pair (.int .u8) (.pair (.int .u8) (.pair (.int .u8) (.pair (.int .i64) (.pair (.int .i64) (.int .i64))))))))],[(true,(.pair (.pair (.int .u8) (.pair (.int .u8) (.pair (.int .u8) (.pair (.int .u8) (.pair (.int .i64) (.pair (.int .i64) (.int .i64))))))) (.pair (.int .i64) (.pair (.int .i64) (.pair (.int .u64) (.pair (.int .u64) (.pair (.aF (.pair (.int .i64) .bool)) (.pair (.int .u64) (.pair (.int .u64) (.pair (.int .i64) (.pair (.int .i64) (.pair (.aF (.int .i64)) (.pair (.int .i64) (.pair (.aF (.int .i64)) (.pair (.int .i64) (.pair .bool (.pair .bool (.pair .bool (.pair (.int .i64) (.pair (.int .i64) (.aF (.int .i64))))))))))))))))))))))],[(8,R8)],[]⟩
def g.gk (a0:U4) (a1:(Option Nat)) (a2:nZ) (a3:(Int×(Int×(Int×U4)))) (c0:T2):(Option ((U1×Unit)×Unit)):=(br (cP 4 a3.2.2.1) (br (cP 4 a3.2.2.2.1) (bd (g.cB a2) (fun p0=>(bd (g.bE a2) (fun p1=>(bd (g.bC (a0,(a2,(a3,(0,0))))) (fun p2=>(br (ak p2.1.1 0) (bd (g.cy (a0,(a2,(a3,(0,0))))) (fun p3=>(some (((a3,(p3.1.1,(p0.1.1,(0,(0,(p1.1.1,(0,(0,(0,(0,([],(0,([],(0,(false,(false,(false,(p2.1.1,(0,[]))))))))))))))))))),()),())))) (some (((a3,(0,(p0.1.1,(0,(0,(p1.1.1,(0,(0,(0,(0,([],(0,([],(0,(false,(false,(false,(p2.1.1,(0,[]))))))))))))))))))),()),()))))))))) (opt a1 none (fun p4=>(bd (aT c0 p4) (fun p5=>(gd (bn a3.2.2.2.1) (gd (bu (nN a3.2.2.2.1) (len p5)) (bd (aT c0 p4) (fun p6=>(bd (g.cB a2) (fun p7=>(bd (g.bE a2) (fun p8=>(bd (g.bC (a0,(a2,(a3,(0,(nth 0 p6 (nN a3.2.2.2.1))))))) (fun p9=>(br (ak p9.1.1 0) (bd (g.cy (a0,(a2,(a3,(0,(nth 0 p6 (nN a3.2.2.2.1))))))) (fun gI=>(some (((a3,(gI.1.1,(p7.1.1,(0,((nth 0 p6 (nN a3.2.2.2.1)),(p8.1.1,(0,(0,(0,(0,([],(0,([],(0,(false,(false,(false,(p9.1.1,(0,[]))))))))))))))))))),()),())))) (some (((a3,(0,(p7.1.1,(0,((nth 0 p6 (nN a3.2.2.2.1)),(p8.1.1,(0,(0,(0,(0,([],(0,([],(0,(false,(false,(false,(p9.1.1,(0,[]))))))))))))))))))),()),())))))))))))))))))) (opt a1 none (fun kV=>(bd (aT c0 kV) (fun cA=>(gd (bn a3.2.2.1) (gd (bu (nN a3.2.2.1) (len cA)) (bd (aT c0 kV) (fun cb=>(br (cP 4 a3.2.2.2.1) (bd (g.cB a2) (fun iB=>(bd (g.bE a2) (fun dI=>(bd (g.bC (a0,(a2,(a3,((nth 0 cb (nN a3.2.2.1)),0))))) (fun eZ=>(br (ak eZ.1.1 0) (bd (g.cy (a0,(a2,(a3,((nth 0 cb (nN a3.2.2.1)),0))))) (fun gy=>(some (((a3,(gy.1.1,(iB.1.1,((nth 0 cb (nN a3.2.2.1)),(0,(dI.1.1,(0,(0,(0,(0,([],(0,([],(0,(false,(false,(false,(eZ.1.1,(0,[]))))))))))))))))))),()),())))) (some (((a3,(0,(iB.1.1,((nth 0 cb (nN a3.2.2.1)),(0,(dI.1.1,(0,(0,(0,(0,([],(0,([],(0,(false,(false,(false,(eZ.1.1,(0,[]))))))))))))))))))),()),()))))))))) (opt a1 none (fun fL=>(bd (aT c0 fL) (fun kF=>(gd (bn a3.2.2.2.1) (gd (bu (nN a3.2.2.2.1) (len kF)) (bd (aT c0 fL) (fun dT=>(bd (g.cB a2) (fun mu=>(bd (g.bE a2) (fun jh=>(bd (g.bC (a0,(a2,(a3,((nth 0 cb (nN a3.2.2.1)),(nth 0 dT (nN a3.2.2.2.1))))))) (fun fk=>(br (ak fk.1.1 0) (bd (g.cy (a0,(a2,(a3,((nth 0 cb (nN a3.2.2.1)),(nth 0 dT (nN a3.2.2.2.1))))))) (fun jX=>(some (((a3,(jX.1.1,(mu.1.1,((nth 0 cb (nN a3.2.2.1)),((nth 0 dT (nN a3.2.2.2.1)),(jh.1.1,(0,(0,(0,(0,([],(0,([],(0,(false,(false,(false,(fk.1.1,(0,[]))))))))))))))))))),()),())))) (some (((a3,(0,(mu.1.1,((nth 0 cb (nN a3.2.2.1)),((nth 0 dT (nN a3.2.2.2.1)),(jh.1.1,(0,(0,(0,(0,([],(0,([],(0,(false,(false,(false,(fk.1.1,(0,[]))))))))))))))))))),()),())))))))))))))))))))))))))))
def F39:Plain TF:=fun x c d=>g.gk x.1 x.2.1 x.2.2.1 x.2.2.2.1 c.1
theorem adl:bj Tryz.prog 39 TF F39:=bD (ao Xu (ao Xs (ao ade (ao adb (aH))))) fun x c d=>by kernel_rfl
def TJ:da:=⟨[(false,(.aF (.int .i64)))],[(false,(.aF (.int .i64)))],[],[]⟩
def g.cO (a0:(List Int)):(Option (mE×Unit)):=(gd (bp (aK 0 (len a0)) 16777216) (some (((cat [] a0),()),())))
def F36:Plain TJ:=fun x c d=>g.cO x.1
theorem Xy:bj Tryz.prog 36 TJ F36:=vl (sr xl mixed FG (hm:=homes) (aH) 8) (t:=(.int .i64)) (rs:=[(false,.aF (.int .i64))]) (F:=fun l=>F36 (l,()) () ()) (by kernel_rfl) (fun l=>by kernel_rfl)
def Tm:da:=⟨[(true,(.pair (.pair (.int .u8) (.pair (.int .u8) (.pair (.int .u8) (.pair (.int .u8) (.pair (.int .i64) (.pair (.int .i64) (.int .i64))))))) (.pair (.int .i64) (.pair (.int .i64) (.pair (.int .u64) (.pair (.int .u64) (.pair (.aF (.pair (.int .i64) .bool)) (.pair (.int .u64) (.pair (.int .u64) (.pair (.int .i64) (.pair (.int .i64) (.pair (.aF (.int .i64)) (.pair (.int .i64) (.pair (.aF (.int .i64)) (.pair (.int .i64) (.pair .bool (.pair .bool (.pair .bool (.pair (.int .i64) (.pair (.int .i64) (.aF (.int .i64)))))))))))))))))))))),(false,(.int .i64)),(false,(.int .i64))],[(true,(.pair (.pair (.int .u8) (.pair (.int .u8) (.pair (.int .u8) (.pair (.int .u8) (.pair (.int .i64) (.pair (.int .i64) (.int .i64))))))) (.pair (.int .i64) (.pair (.int .i64) (.pair (.int .u64) (.pair (.int .u64) (.pair (.aF (.pair (.int .i64) .bool)) (.pair (.int .u64) (.pair (.int .u64) (.pair (.int .i64) (.pair (.int .i64) (.pair (.aF (.int .i64)) (.pair (.int .i64) (.pair (.aF (.int .i64)) (.pair (.int .i64) (.pair .bool (.pair .bool (.pair .bool (.pair (.int .i64) (.pair (.int .i64) (.aF (.int .i64))))))))))))))))))))))],[],[]⟩
def g.a_ (a0:U1) (a1:Int) (a2:Int):(Option ((U1×Unit)×Unit)):=(bd (g.cO a0.2.2.2.2.2.2.2.2.2.2.2.2.1) (fun p0=>(some (((a0.1,(a0.2.1,(a0.2.2.1,(a0.2.2.2.1,(a0.2.2.2.2.1,(a0.2.2.2.2.2.1,(a0.2.2.2.2.2.2.1,(a0.2.2.2.2.2.2.2.1,(a0.2.2.2.2.2.2.2.2.1,(a0.2.2.2.2.2.2.2.2.2.1,(a0.2.2.2.2.2.2.2.2.2.2.1,(a0.2.2.2.2.2.2.2.2.2.2.2.1,(a0.2.2.2.2.2.2.2.2.2.2.2.2.1,(a0.2.2.2.2.2.2.2.2.2.2.2.2.2.1,(a0.2.2.2.2.2.2.2.2.2.2.2.2.2.2.1,(true,(true,(a1,(a2,p0.1.1))))))))))))))))))),()),()))))
def F60:Plain Tm:=fun x c d=>g.a_ x.1 x.2.1 x.2.2.1
theorem CM:bj Tryz.prog 60 Tm F60:=bD (ao Xy (aH)) fun x c d=>by kernel_rfl
def Li:da:=⟨[(false,(.cY 1)),(false,(.int .i64))],[(false,(.int .u64)),(false,(.int .i64))],[(1,R1),(2,R2)],[]⟩
def g.fG (a0:Nat) (a1:Int) (c0:T1) (c1:T2) (k:((ja×U2)→(Option (ja×Unit)))) (s:(ja×U2)):(Option (ja×Unit)):=(br (aQ s.1.2.1 8) (opt (nth none c0 a0) none (fun p0=>(bd (aT c1 p0) (fun p1=>(gd (bn (ae .i64 a1 s.1.2.1)) (gd (bu (nN (ae .i64 a1 s.1.2.1)) (len p1)) (bd (aT c1 p0) (fun p2=>(gd (bn (cm .i64 8 s.1.2.1)) (k (((bits .or .u64 s.1.1 (lU .u64 (cS .u64 (nth 0 p2 (nN (ae .i64 a1 s.1.2.1)))) (cm .i64 8 s.1.2.1))),((ae .i64 s.1.2.1 1),())),((),((),((),())))))))))))))) (some ((s.1.1,(0,())),())))
def g.aP (a0:Nat) (a1:Int) (c0:T1) (c1:T2):(Option (ja×Unit)):=(bd (g.cN a0 a1 c0 c1) (fun p0=>(br (az p0.1.1) (some ((0,(1,())),())) (loop (g.fG a0 a1 c0 c1) ((0,(0,())),((),((),((),()))))))))
def aen:Plain Li:=fun x c d=>g.aP x.1 x.2.1 c.1 c.2.1
theorem pE:bj Tryz.prog 135 Li aen:=bD (ao Gg (aH)) fun x c d=>by kernel_rfl
def K4:da:=⟨[(false,(.int .u64)),(false,(.int .i64)),(false,(.int .i64))],[(false,(.int .i64))],[],[]⟩
def g.gX (a0:Int) (a1:Int) (a2:Int):pP:=(gd (bn a1) (gd (bn a2) (some (((cS .i64 (bits .and .u64 (j0 .u64 a0 a1) (aE .u64 (lU .u64 1 a2) 1))),()),()))))
def ad_:Plain K4:=fun x c d=>g.gX x.1 x.2.1 x.2.2.1
theorem XL:bj Tryz.prog 203 K4 ad_:=bD (aH) fun x c d=>by kernel_rfl
def Lh:da:=⟨[(false,(.int .u64))],[(true,(.pair (.int .i64) (.pair (.int .i64) (.pair (.int .i64) (.int .i64))))),(false,(.int .i64))],[],[]⟩
def g.dU (a0:Int):(Option ((U4×(Int×Unit))×Unit)):=(bd (g.gX a0 0 2) (fun p0=>(bd (g.gX a0 2 8) (fun p1=>(bd (g.gX a0 10 8) (fun p2=>(bd (g.gX a0 18 24) (fun p3=>(bd (g.fM (p0.1.1,(p1.1.1,((aE .i64 p2.1.1 1),p3.1.1)))) (fun p4=>(br (az p4.1.1) (some (((0,(0,(0,0))),(1,())),())) (br (az (ak (j0 .u64 a0 42) 0)) (some (((0,(0,(0,0))),(1,())),())) (some (((p0.1.1,(p1.1.1,((aE .i64 p2.1.1 1),p3.1.1))),(0,())),()))))))))))))))
def aem:Plain Lh:=fun x c d=>g.dU x.1
theorem Gf:bj Tryz.prog 136 Lh aem:=bD (ao A0 (ao XL (aH))) fun x c d=>by kernel_rfl
def SX:da:=⟨[(true,(.pair (.int .i64) (.pair (.int .i64) (.pair (.int .i64) (.int .i64))))),(false,(.cY 1)),(false,(.int .i64))],[(true,(.pair (.int .i64) (.pair (.int .i64) (.pair (.int .i64) (.int .i64))))),(false,(.int .i64))],[(1,R1),(2,R2)],[]⟩
def g.gu (a0:U4) (a1:Nat) (a2:Int) (c0:T1) (c1:T2):(Option ((U4×(Int×Unit))×Unit)):=(bd (g.db a0 0 a2) (fun p0=>(br (az (ak p0.1.2.1 0)) (some (((0,(0,(0,0))),(11,())),())) (bd (g.aP a1 p0.1.1 c0 c1) (fun p1=>(bd (g.dU p1.1.1) (fun p2=>(br (az (ak p2.1.2.1 0)) (some (((0,(0,(0,0))),(11,())),())) (some ((p2.1.1,(0,())),()))))))))))
def F94:Plain SX:=fun x c d=>g.gu x.1 x.2.1 x.2.2.1 c.1 c.2.1
theorem Jf:bj Tryz.prog 94 SX F94:=bD (ao zh (ao pE (ao Gf (aH)))) fun x c d=>by kernel_rfl
def Lk:da:=⟨[(false,(.cY 3)),(false,(.int .i64)),(false,(.int .i64))],[(false,(.int .i64))],[],[(3,R3),(4,R4)]⟩
def g.i_ (a0:Nat) (a1:Int) (a2:Int) (v0:gE) (v1:(List (Int×Int))) (v2:(List (Int×Int))) (v3:(List (Int×Int))) (k:(Mm→zm)) (s:Mm):zm:=(br (aQ s.1.1 (zN (len (cat (cat (tk (ay (nN v0.1.1) 0) (dr 0 v1)) [(a1,a2)]) (tk (ay (len v2) (nN v0.1.1)) (dr (nN v0.1.1) v3)))))) (gd (bn s.1.1) (gd (bu (nN s.1.1) (len (cat (cat (tk (ay (nN v0.1.1) 0) (dr 0 v1)) [(a1,a2)]) (tk (ay (len v2) (nN v0.1.1)) (dr (nN v0.1.1) v3))))) (opt (nth (0,(0,none)) s.2.2.2.2.1 a0).2.2 (jn (fun (k0:iV→_)=>(k0 ((false,()),((),((),((),())))))) (fun (s1:iV)=>(br s1.1.1 (opt (nth (0,(0,none)) s.2.2.2.2.1 a0).2.2 none (fun p2=>(bd (aT s.2.2.2.2.2.1 p2) (fun p3=>(gd (bn (-1)) (gd (bu 0 (len p3)) (bd (aT s.2.2.2.2.2.1 p2) (fun p4=>(bd (aT s.2.2.2.2.2.1 p2) (fun p5=>(gd (bn (-1)) (gd (bu 0 (len p5)) (bd (aT s.2.2.2.2.2.1 p2) (fun p6=>(k (((ae .i64 s.1.1 1),()),((),((),((),(s.2.2.2.2.1,((upd s.2.2.2.2.2.1 p2 (some (ah (0,0) p6 0 (fun r7=>(r7.1,(ae .i64 (nth (0,0) p4 0).2 (nth (0,0) (cat (cat (tk (ay (nN v0.1.1) 0) (dr 0 v1)) [(a1,a2)]) (tk (ay (len v2) (nN v0.1.1)) (dr (nN v0.1.1) v3))) (nN s.1.1)).2)))))),()))))))))))))))))))))) (opt (nth (0,(0,none)) s.2.2.2.2.1 a0).2.2 (gd (bp (len [(nth (0,0) (cat (cat (tk (ay (nN v0.1.1) 0) (dr 0 v1)) [(a1,a2)]) (tk (ay (len v2) (nN v0.1.1)) (dr (nN v0.1.1) v3))) (nN s.1.1))]) 16777216) (k (((ae .i64 s.1.1 1),()),((),((),((),((ah (0,(0,none)) s.2.2.2.2.1 a0 (fun r8=>(r8.1,(r8.2.1,(some (len s.2.2.2.2.2.1)))))),((cat s.2.2.2.2.2.1 [(some [(nth (0,0) (cat (cat (tk (ay (nN v0.1.1) 0) (dr 0 v1)) [(a1,a2)]) (tk (ay (len v2) (nN v0.1.1)) (dr (nN v0.1.1) v3))) (nN s.1.1))])]),())))))))) (fun p9=>(bd (aT s.2.2.2.2.2.1 p9) (fun gI=>(gd (bp (aK (len gI) (len [(nth (0,0) (cat (cat (tk (ay (nN v0.1.1) 0) (dr 0 v1)) [(a1,a2)]) (tk (ay (len v2) (nN v0.1.1)) (dr (nN v0.1.1) v3))) (nN s.1.1))])) 16777216) (gd (bu p9 (len s.2.2.2.2.2.1)) (k (((ae .i64 s.1.1 1),()),((),((),((),((ah (0,(0,none)) s.2.2.2.2.1 a0 (fun nR=>(nR.1,(nR.2.1,(some (len (upd s.2.2.2.2.2.1 p9 none))))))),((cat (upd s.2.2.2.2.2.1 p9 none) [(some (cat gI [(nth (0,0) (cat (cat (tk (ay (nN v0.1.1) 0) (dr 0 v1)) [(a1,a2)]) (tk (ay (len v2) (nN v0.1.1)) (dr (nN v0.1.1) v3))) (nN s.1.1))]))]),())))))))))))))))) (fun cA=>(bd (aT s.2.2.2.2.2.1 cA) (fun cb=>(jn (fun (uP:iV→_)=>(br (cP 0 (aE .i64 (zN (len cb)) 1)) (opt (nth (0,(0,none)) s.2.2.2.2.1 a0).2.2 none (fun dI=>(bd (aT s.2.2.2.2.2.1 dI) (fun eZ=>(gd (bn (aE .i64 (zN (len cb)) 1)) (gd (bu (nN (aE .i64 (zN (len cb)) 1)) (len eZ)) (bd (aT s.2.2.2.2.2.1 dI) (fun gy=>(opt (nth (0,(0,none)) s.2.2.2.2.1 a0).2.2 none (fun fL=>(bd (aT s.2.2.2.2.2.1 fL) (fun kF=>(gd (bn (aE .i64 (zN (len cb)) 1)) (gd (bu (nN (aE .i64 (zN (len cb)) 1)) (len kF)) (bd (aT s.2.2.2.2.2.1 fL) (fun dT=>(uP (((ak (ae .i64 (nth (0,0) gy (nN (aE .i64 (zN (len cb)) 1))).1 (nth (0,0) dT (nN (aE .i64 (zN (len cb)) 1))).2) (nth (0,0) (cat (cat (tk (ay (nN v0.1.1) 0) (dr 0 v1)) [(a1,a2)]) (tk (ay (len v2) (nN v0.1.1)) (dr (nN v0.1.1) v3))) (nN s.1.1)).1),()),((),((),((),()))))))))))))))))))))) (uP ((false,()),((),((),((),()))))))) (fun (GY:iV)=>(br GY.1.1 (opt (nth (0,(0,none)) s.2.2.2.2.1 a0).2.2 none (fun jh=>(bd (aT s.2.2.2.2.2.1 jh) (fun fk=>(gd (bn (aE .i64 (zN (len cb)) 1)) (gd (bu (nN (aE .i64 (zN (len cb)) 1)) (len fk)) (bd (aT s.2.2.2.2.2.1 jh) (fun jX=>(bd (aT s.2.2.2.2.2.1 jh) (fun fq=>(gd (bn (aE .i64 (zN (len cb)) 1)) (gd (bu (nN (aE .i64 (zN (len cb)) 1)) (len fq)) (bd (aT s.2.2.2.2.2.1 jh) (fun eN=>(k (((ae .i64 s.1.1 1),()),((),((),((),(s.2.2.2.2.1,((upd s.2.2.2.2.2.1 jh (some (ah (0,0) eN (nN (aE .i64 (zN (len cb)) 1)) (fun bY=>(bY.1,(ae .i64 (nth (0,0) jX (nN (aE .i64 (zN (len cb)) 1))).2 (nth (0,0) (cat (cat (tk (ay (nN v0.1.1) 0) (dr 0 v1)) [(a1,a2)]) (tk (ay (len v2) (nN v0.1.1)) (dr (nN v0.1.1) v3))) (nN s.1.1)).2)))))),()))))))))))))))))))))) (opt (nth (0,(0,none)) s.2.2.2.2.1 a0).2.2 (gd (bp (len [(nth (0,0) (cat (cat (tk (ay (nN v0.1.1) 0) (dr 0 v1)) [(a1,a2)]) (tk (ay (len v2) (nN v0.1.1)) (dr (nN v0.1.1) v3))) (nN s.1.1))]) 16777216) (k (((ae .i64 s.1.1 1),()),((),((),((),((ah (0,(0,none)) s.2.2.2.2.1 a0 (fun nR=>(nR.1,(nR.2.1,(some (len s.2.2.2.2.2.1)))))),((cat s.2.2.2.2.2.1 [(some [(nth (0,0) (cat (cat (tk (ay (nN v0.1.1) 0) (dr 0 v1)) [(a1,a2)]) (tk (ay (len v2) (nN v0.1.1)) (dr (nN v0.1.1) v3))) (nN s.1.1))])]),())))))))) (fun mD=>(bd (aT s.2.2.2.2.2.1 mD) (fun jS=>(gd (bp (aK (len jS) (len [(nth (0,0) (cat (cat (tk (ay (nN v0.1.1) 0) (dr 0 v1)) [(a1,a2)]) (tk (ay (len v2) (nN v0.1.1)) (dr (nN v0.1.1) v3))) (nN s.1.1))])) 16777216) (gd (bu mD (len s.2.2.2.2.2.1)) (k (((ae .i64 s.1.1 1),()),((),((),((),((ah (0,(0,none)) s.2.2.2.2.1 a0 (fun sI=>(sI.1,(sI.2.1,(some (len (upd s.2.2.2.2.2.1 mD none))))))),((cat (upd s.2.2.2.2.2.1 mD none) [(some (cat jS [(nth (0,0) (cat (cat (tk (ay (nN v0.1.1) 0) (dr 0 v1)) [(a1,a2)]) (tk (ay (len v2) (nN v0.1.1)) (dr (nN v0.1.1) v3))) (nN s.1.1))]))]),())))))))))))))))))))))) (some ((0,()),(s.2.2.2.2.1,(s.2.2.2.2.2.1,())))))
def g.mw (a0:Nat) (a1:Int) (a2:Int) (v0:gE) (v1:(List (Int×Int))) (k:(Mm→zm)) (s:Mm):zm:=(br (aQ s.1.1 (zN (len (cat (cat (tk (ay (nN v0.1.1) 0) (dr 0 v1)) [(a1,a2)]) [])))) (gd (bn s.1.1) (gd (bu (nN s.1.1) (len (cat (cat (tk (ay (nN v0.1.1) 0) (dr 0 v1)) [(a1,a2)]) []))) (opt (nth (0,(0,none)) s.2.2.2.2.1 a0).2.2 (jn (fun (k0:iV→_)=>(k0 ((false,()),((),((),((),())))))) (fun (s1:iV)=>(br s1.1.1 (opt (nth (0,(0,none)) s.2.2.2.2.1 a0).2.2 none (fun p2=>(bd (aT s.2.2.2.2.2.1 p2) (fun p3=>(gd (bn (-1)) (gd (bu 0 (len p3)) (bd (aT s.2.2.2.2.2.1 p2) (fun p4=>(bd (aT s.2.2.2.2.2.1 p2) (fun p5=>(gd (bn (-1)) (gd (bu 0 (len p5)) (bd (aT s.2.2.2.2.2.1 p2) (fun p6=>(k (((ae .i64 s.1.1 1),()),((),((),((),(s.2.2.2.2.1,((upd s.2.2.2.2.2.1 p2 (some (ah (0,0) p6 0 (fun r7=>(r7.1,(ae .i64 (nth (0,0) p4 0).2 (nth (0,0) (cat (cat (tk (ay (nN v0.1.1) 0) (dr 0 v1)) [(a1,a2)]) []) (nN s.1.1)).2)))))),()))))))))))))))))))))) (opt (nth (0,(0,none)) s.2.2.2.2.1 a0).2.2 (gd (bp (len [(nth (0,0) (cat (cat (tk (ay (nN v0.1.1) 0) (dr 0 v1)) [(a1,a2)]) []) (nN s.1.1))]) 16777216) (k (((ae .i64 s.1.1 1),()),((),((),((),((ah (0,(0,none)) s.2.2.2.2.1 a0 (fun r8=>(r8.1,(r8.2.1,(some (len s.2.2.2.2.2.1)))))),((cat s.2.2.2.2.2.1 [(some [(nth (0,0) (cat (cat (tk (ay (nN v0.1.1) 0) (dr 0 v1)) [(a1,a2)]) []) (nN s.1.1))])]),())))))))) (fun p9=>(bd (aT s.2.2.2.2.2.1 p9) (fun gI=>(gd (bp (aK (len gI) (len [(nth (0,0) (cat (cat (tk (ay (nN v0.1.1) 0) (dr 0 v1)) [(a1,a2)]) []) (nN s.1.1))])) 16777216) (gd (bu p9 (len s.2.2.2.2.2.1)) (k (((ae .i64 s.1.1 1),()),((),((),((),((ah (0,(0,none)) s.2.2.2.2.1 a0 (fun nR=>(nR.1,(nR.2.1,(some (len (upd s.2.2.2.2.2.1 p9 none))))))),((cat (upd s.2.2.2.2.2.1 p9 none) [(some (cat gI [(nth (0,0) (cat (cat (tk (ay (nN v0.1.1) 0) (dr 0 v1)) [(a1,a2)]) []) (nN s.1.1))]))]),())))))))))))))))) (fun cA=>(bd (aT s.2.2.2.2.2.1 cA) (fun cb=>(jn (fun (uP:iV→_)=>(br (cP 0 (aE .i64 (zN (len cb)) 1)) (opt (nth (0,(0,none)) s.2.2.2.2.1 a0).2.2 none (fun dI=>(bd (aT s.2.2.2.2.2.1 dI) (fun eZ=>(gd (bn (aE .i64 (zN (len cb)) 1)) (gd (bu (nN (aE .i64 (zN (len cb)) 1)) (len eZ)) (bd (aT s.2.2.2.2.2.1 dI) (fun gy=>(opt (nth (0,(0,none)) s.2.2.2.2.1 a0).2.2 none (fun fL=>(bd (aT s.2.2.2.2.2.1 fL) (fun kF=>(gd (bn (aE .i64 (zN (len cb)) 1)) (gd (bu (nN (aE .i64 (zN (len cb)) 1)) (len kF)) (bd (aT s.2.2.2.2.2.1 fL) (fun dT=>(uP (((ak (ae .i64 (nth (0,0) gy (nN (aE .i64 (zN (len cb)) 1))).1 (nth (0,0) dT (nN (aE .i64 (zN (len cb)) 1))).2) (nth (0,0) (cat (cat (tk (ay (nN v0.1.1) 0) (dr 0 v1)) [(a1,a2)]) []) (nN s.1.1)).1),()),((),((),((),()))))))))))))))))))))) (uP ((false,()),((),((),((),()))))))) (fun (GY:iV)=>(br GY.1.1 (opt (nth (0,(0,none)) s.2.2.2.2.1 a0).2.2 none (fun jh=>(bd (aT s.2.2.2.2.2.1 jh) (fun fk=>(gd (bn (aE .i64 (zN (len cb)) 1)) (gd (bu (nN (aE .i64 (zN (len cb)) 1)) (len fk)) (bd (aT s.2.2.2.2.2.1 jh) (fun jX=>(bd (aT s.2.2.2.2.2.1 jh) (fun fq=>(gd (bn (aE .i64 (zN (len cb)) 1)) (gd (bu (nN (aE .i64 (zN (len cb)) 1)) (len fq)) (bd (aT s.2.2.2.2.2.1 jh) (fun eN=>(k (((ae .i64 s.1.1 1),()),((),((),((),(s.2.2.2.2.1,((upd s.2.2.2.2.2.1 jh (some (ah (0,0) eN (nN (aE .i64 (zN (len cb)) 1)) (fun bY=>(bY.1,(ae .i64 (nth (0,0) jX (nN (aE .i64 (zN (len cb)) 1))).2 (nth (0,0) (cat (cat (tk (ay (nN v0.1.1) 0) (dr 0 v1)) [(a1,a2)]) []) (nN s.1.1)).2)))))),()))))))))))))))))))))) (opt (nth (0,(0,none)) s.2.2.2.2.1 a0).2.2 (gd (bp (len [(nth (0,0) (cat (cat (tk (ay (nN v0.1.1) 0) (dr 0 v1)) [(a1,a2)]) []) (nN s.1.1))]) 16777216) (k (((ae .i64 s.1.1 1),()),((),((),((),((ah (0,(0,none)) s.2.2.2.2.1 a0 (fun nR=>(nR.1,(nR.2.1,(some (len s.2.2.2.2.2.1)))))),((cat s.2.2.2.2.2.1 [(some [(nth (0,0) (cat (cat (tk (ay (nN v0.1.1) 0) (dr 0 v1)) [(a1,a2)]) []) (nN s.1.1))])]),())))))))) (fun mD=>(bd (aT s.2.2.2.2.2.1 mD) (fun jS=>(gd (bp (aK (len jS) (len [(nth (0,0) (cat (cat (tk (ay (nN v0.1.1) 0) (dr 0 v1)) [(a1,a2)]) []) (nN s.1.1))])) 16777216) (gd (bu mD (len s.2.2.2.2.2.1)) (k (((ae .i64 s.1.1 1),()),((),((),((),((ah (0,(0,none)) s.2.2.2.2.1 a0 (fun sI=>(sI.1,(sI.2.1,(some (len (upd s.2.2.2.2.2.1 mD none))))))),((cat (upd s.2.2.2.2.2.1 mD none) [(some (cat jS [(nth (0,0) (cat (cat (tk (ay (nN v0.1.1) 0) (dr 0 v1)) [(a1,a2)]) []) (nN s.1.1))]))]),())))))))))))))))))))))) (some ((0,()),(s.2.2.2.2.1,(s.2.2.2.2.2.1,())))))
def g.gC (a0:Nat) (a1:Int) (a2:Int) (v0:(List (Int×Int))) (v1:gE) (v2:(List (Int×Int))) (k:(Mm→zm)) (s:Mm):zm:=(br (aQ s.1.1 (zN (len (cat [(a1,a2)] (tk (ay (len v0) (nN v1.1.1)) (dr (nN v1.1.1) v2)))))) (gd (bn s.1.1) (gd (bu (nN s.1.1) (len (cat [(a1,a2)] (tk (ay (len v0) (nN v1.1.1)) (dr (nN v1.1.1) v2))))) (opt (nth (0,(0,none)) s.2.2.2.2.1 a0).2.2 (jn (fun (k0:iV→_)=>(k0 ((false,()),((),((),((),())))))) (fun (s1:iV)=>(br s1.1.1 (opt (nth (0,(0,none)) s.2.2.2.2.1 a0).2.2 none (fun p2=>(bd (aT s.2.2.2.2.2.1 p2) (fun p3=>(gd (bn (-1)) (gd (bu 0 (len p3)) (bd (aT s.2.2.2.2.2.1 p2) (fun p4=>(bd (aT s.2.2.2.2.2.1 p2) (fun p5=>(gd (bn (-1)) (gd (bu 0 (len p5)) (bd (aT s.2.2.2.2.2.1 p2) (fun p6=>(k (((ae .i64 s.1.1 1),()),((),((),((),(s.2.2.2.2.1,((upd s.2.2.2.2.2.1 p2 (some (ah (0,0) p6 0 (fun r7=>(r7.1,(ae .i64 (nth (0,0) p4 0).2 (nth (0,0) (cat [(a1,a2)] (tk (ay (len v0) (nN v1.1.1)) (dr (nN v1.1.1) v2))) (nN s.1.1)).2)))))),()))))))))))))))))))))) (opt (nth (0,(0,none)) s.2.2.2.2.1 a0).2.2 (gd (bp (len [(nth (0,0) (cat [(a1,a2)] (tk (ay (len v0) (nN v1.1.1)) (dr (nN v1.1.1) v2))) (nN s.1.1))]) 16777216) (k (((ae .i64 s.1.1 1),()),((),((),((),((ah (0,(0,none)) s.2.2.2.2.1 a0 (fun r8=>(r8.1,(r8.2.1,(some (len s.2.2.2.2.2.1)))))),((cat s.2.2.2.2.2.1 [(some [(nth (0,0) (cat [(a1,a2)] (tk (ay (len v0) (nN v1.1.1)) (dr (nN v1.1.1) v2))) (nN s.1.1))])]),())))))))) (fun p9=>(bd (aT s.2.2.2.2.2.1 p9) (fun gI=>(gd (bp (aK (len gI) (len [(nth (0,0) (cat [(a1,a2)] (tk (ay (len v0) (nN v1.1.1)) (dr (nN v1.1.1) v2))) (nN s.1.1))])) 16777216) (gd (bu p9 (len s.2.2.2.2.2.1)) (k (((ae .i64 s.1.1 1),()),((),((),((),((ah (0,(0,none)) s.2.2.2.2.1 a0 (fun nR=>(nR.1,(nR.2.1,(some (len (upd s.2.2.2.2.2.1 p9 none))))))),((cat (upd s.2.2.2.2.2.1 p9 none) [(some (cat gI [(nth (0,0) (cat [(a1,a2)] (tk (ay (len v0) (nN v1.1.1)) (dr (nN v1.1.1) v2))) (nN s.1.1))]))]),())))))))))))))))) (fun cA=>(bd (aT s.2.2.2.2.2.1 cA) (fun cb=>(jn (fun (uP:iV→_)=>(br (cP 0 (aE .i64 (zN (len cb)) 1)) (opt (nth (0,(0,none)) s.2.2.2.2.1 a0).2.2 none (fun dI=>(bd (aT s.2.2.2.2.2.1 dI) (fun eZ=>(gd (bn (aE .i64 (zN (len cb)) 1)) (gd (bu (nN (aE .i64 (zN (len cb)) 1)) (len eZ)) (bd (aT s.2.2.2.2.2.1 dI) (fun gy=>(opt (nth (0,(0,none)) s.2.2.2.2.1 a0).2.2 none (fun fL=>(bd (aT s.2.2.2.2.2.1 fL) (fun kF=>(gd (bn (aE .i64 (zN (len cb)) 1)) (gd (bu (nN (aE .i64 (zN (len cb)) 1)) (len kF)) (bd (aT s.2.2.2.2.2.1 fL) (fun dT=>(uP (((ak (ae .i64 (nth (0,0) gy (nN (aE .i64 (zN (len cb)) 1))).1 (nth (0,0) dT (nN (aE .i64 (zN (len cb)) 1))).2) (nth (0,0) (cat [(a1,a2)] (tk (ay (len v0) (nN v1.1.1)) (dr (nN v1.1.1) v2))) (nN s.1.1)).1),()),((),((),((),()))))))))))))))))))))) (uP ((false,()),((),((),((),()))))))) (fun (GY:iV)=>(br GY.1.1 (opt (nth (0,(0,none)) s.2.2.2.2.1 a0).2.2 none (fun jh=>(bd (aT s.2.2.2.2.2.1 jh) (fun fk=>(gd (bn (aE .i64 (zN (len cb)) 1)) (gd (bu (nN (aE .i64 (zN (len cb)) 1)) (len fk)) (bd (aT s.2.2.2.2.2.1 jh) (fun jX=>(bd (aT s.2.2.2.2.2.1 jh) (fun fq=>(gd (bn (aE .i64 (zN (len cb)) 1)) (gd (bu (nN (aE .i64 (zN (len cb)) 1)) (len fq)) (bd (aT s.2.2.2.2.2.1 jh) (fun eN=>(k (((ae .i64 s.1.1 1),()),((),((),((),(s.2.2.2.2.1,((upd s.2.2.2.2.2.1 jh (some (ah (0,0) eN (nN (aE .i64 (zN (len cb)) 1)) (fun bY=>(bY.1,(ae .i64 (nth (0,0) jX (nN (aE .i64 (zN (len cb)) 1))).2 (nth (0,0) (cat [(a1,a2)] (tk (ay (len v0) (nN v1.1.1)) (dr (nN v1.1.1) v2))) (nN s.1.1)).2)))))),()))))))))))))))))))))) (opt (nth (0,(0,none)) s.2.2.2.2.1 a0).2.2 (gd (bp (len [(nth (0,0) (cat [(a1,a2)] (tk (ay (len v0) (nN v1.1.1)) (dr (nN v1.1.1) v2))) (nN s.1.1))]) 16777216) (k (((ae .i64 s.1.1 1),()),((),((),((),((ah (0,(0,none)) s.2.2.2.2.1 a0 (fun nR=>(nR.1,(nR.2.1,(some (len s.2.2.2.2.2.1)))))),((cat s.2.2.2.2.2.1 [(some [(nth (0,0) (cat [(a1,a2)] (tk (ay (len v0) (nN v1.1.1)) (dr (nN v1.1.1) v2))) (nN s.1.1))])]),())))))))) (fun mD=>(bd (aT s.2.2.2.2.2.1 mD) (fun jS=>(gd (bp (aK (len jS) (len [(nth (0,0) (cat [(a1,a2)] (tk (ay (len v0) (nN v1.1.1)) (dr (nN v1.1.1) v2))) (nN s.1.1))])) 16777216) (gd (bu mD (len s.2.2.2.2.2.1)) (k (((ae .i64 s.1.1 1),()),((),((),((),((ah (0,(0,none)) s.2.2.2.2.1 a0 (fun sI=>(sI.1,(sI.2.1,(some (len (upd s.2.2.2.2.2.1 mD none))))))),((cat (upd s.2.2.2.2.2.1 mD none) [(some (cat jS [(nth (0,0) (cat [(a1,a2)] (tk (ay (len v0) (nN v1.1.1)) (dr (nN v1.1.1) v2))) (nN s.1.1))]))]),())))))))))))))))))))))) (some ((0,()),(s.2.2.2.2.1,(s.2.2.2.2.2.1,())))))
def g.gB (a0:Nat) (a1:Int) (a2:Int) (k:(Mm→zm)) (s:Mm):zm:=(br (aQ s.1.1 (zN (len (cat [(a1,a2)] [])))) (gd (bn s.1.1) (gd (bu (nN s.1.1) (len (cat [(a1,a2)] []))) (opt (nth (0,(0,none)) s.2.2.2.2.1 a0).2.2 (jn (fun (k0:iV→_)=>(k0 ((false,()),((),((),((),())))))) (fun (s1:iV)=>(br s1.1.1 (opt (nth (0,(0,none)) s.2.2.2.2.1 a0).2.2 none (fun p2=>(bd (aT s.2.2.2.2.2.1 p2) (fun p3=>(gd (bn (-1)) (gd (bu 0 (len p3)) (bd (aT s.2.2.2.2.2.1 p2) (fun p4=>(bd (aT s.2.2.2.2.2.1 p2) (fun p5=>(gd (bn (-1)) (gd (bu 0 (len p5)) (bd (aT s.2.2.2.2.2.1 p2) (fun p6=>(k (((ae .i64 s.1.1 1),()),((),((),((),(s.2.2.2.2.1,((upd s.2.2.2.2.2.1 p2 (some (ah (0,0) p6 0 (fun r7=>(r7.1,(ae .i64 (nth (0,0) p4 0).2 (nth (0,0) (cat [(a1,a2)] []) (nN s.1.1)).2)))))),()))))))))))))))))))))) (opt (nth (0,(0,none)) s.2.2.2.2.1 a0).2.2 (gd (bp (len [(nth (0,0) (cat [(a1,a2)] []) (nN s.1.1))]) 16777216) (k (((ae .i64 s.1.1 1),()),((),((),((),((ah (0,(0,none)) s.2.2.2.2.1 a0 (fun r8=>(r8.1,(r8.2.1,(some (len s.2.2.2.2.2.1)))))),((cat s.2.2.2.2.2.1 [(some [(nth (0,0) (cat [(a1,a2)] []) (nN s.1.1))])]),())))))))) (fun p9=>(bd (aT s.2.2.2.2.2.1 p9) (fun gI=>(gd (bp (aK (len gI) (len [(nth (0,0) (cat [(a1,a2)] []) (nN s.1.1))])) 16777216) (gd (bu p9 (len s.2.2.2.2.2.1)) (k (((ae .i64 s.1.1 1),()),((),((),((),((ah (0,(0,none)) s.2.2.2.2.1 a0 (fun nR=>(nR.1,(nR.2.1,(some (len (upd s.2.2.2.2.2.1 p9 none))))))),((cat (upd s.2.2.2.2.2.1 p9 none) [(some (cat gI [(nth (0,0) (cat [(a1,a2)] []) (nN s.1.1))]))]),())))))))))))))))) (fun cA=>(bd (aT s.2.2.2.2.2.1 cA) (fun cb=>(jn (fun (uP:iV→_)=>(br (cP 0 (aE .i64 (zN (len cb)) 1)) (opt (nth (0,(0,none)) s.2.2.2.2.1 a0).2.2 none (fun dI=>(bd (aT s.2.2.2.2.2.1 dI) (fun eZ=>(gd (bn (aE .i64 (zN (len cb)) 1)) (gd (bu (nN (aE .i64 (zN (len cb)) 1)) (len eZ)) (bd (aT s.2.2.2.2.2.1 dI) (fun gy=>(opt (nth (0,(0,none)) s.2.2.2.2.1 a0).2.2 none (fun fL=>(bd (aT s.2.2.2.2.2.1 fL) (fun kF=>(gd (bn (aE .i64 (zN (len cb)) 1)) (gd (bu (nN (aE .i64 (zN (len cb)) 1)) (len kF)) (bd (aT s.2.2.2.2.2.1 fL) (fun dT=>(uP (((ak (ae .i64 (nth (0,0) gy (nN (aE .i64 (zN (len cb)) 1))).1 (nth (0,0) dT (nN (aE .i64 (zN (len cb)) 1))).2) (nth (0,0) (cat [(a1,a2)] []) (nN s.1.1)).1),()),((),((),((),()))))))))))))))))))))) (uP ((false,()),((),((),((),()))))))) (fun (GY:iV)=>(br GY.1.1 (opt (nth (0,(0,none)) s.2.2.2.2.1 a0).2.2 none (fun jh=>(bd (aT s.2.2.2.2.2.1 jh) (fun fk=>(gd (bn (aE .i64 (zN (len cb)) 1)) (gd (bu (nN (aE .i64 (zN (len cb)) 1)) (len fk)) (bd (aT s.2.2.2.2.2.1 jh) (fun jX=>(bd (aT s.2.2.2.2.2.1 jh) (fun fq=>(gd (bn (aE .i64 (zN (len cb)) 1)) (gd (bu (nN (aE .i64 (zN (len cb)) 1)) (len fq)) (bd (aT s.2.2.2.2.2.1 jh) (fun eN=>(k (((ae .i64 s.1.1 1),()),((),((),((),(s.2.2.2.2.1,((upd s.2.2.2.2.2.1 jh (some (ah (0,0) eN (nN (aE .i64 (zN (len cb)) 1)) (fun bY=>(bY.1,(ae .i64 (nth (0,0) jX (nN (aE .i64 (zN (len cb)) 1))).2 (nth (0,0) (cat [(a1,a2)] []) (nN s.1.1)).2)))))),()))))))))))))))))))))) (opt (nth (0,(0,none)) s.2.2.2.2.1 a0).2.2 (gd (bp (len [(nth (0,0) (cat [(a1,a2)] []) (nN s.1.1))]) 16777216) (k (((ae .i64 s.1.1 1),()),((),((),((),((ah (0,(0,none)) s.2.2.2.2.1 a0 (fun nR=>(nR.1,(nR.2.1,(some (len s.2.2.2.2.2.1)))))),((cat s.2.2.2.2.2.1 [(some [(nth (0,0) (cat [(a1,a2)] []) (nN s.1.1))])]),())))))))) (fun mD=>(bd (aT s.2.2.2.2.2.1 mD) (fun jS=>(gd (bp (aK (len jS) (len [(nth (0,0) (cat [(a1,a2)] []) (nN s.1.1))])) 16777216) (gd (bu mD (len s.2.2.2.2.2.1)) (k (((ae .i64 s.1.1 1),()),((),((),((),((ah (0,(0,none)) s.2.2.2.2.1 a0 (fun sI=>(sI.1,(sI.2.1,(some (len (upd s.2.2.2.2.2.1 mD none))))))),((cat (upd s.2.2.2.2.2.1 mD none) [(some (cat jS [(nth (0,0) (cat [(a1,a2)] []) (nN s.1.1))]))]),())))))))))))))))))))))) (some ((0,()),(s.2.2.2.2.1,(s.2.2.2.2.2.1,())))))
def g.du (a1:Int) (d1:T4) (v0:(List (Int×Int))) (v1:Nat) (v2:gE→zm) (k:(gE→zm)) (s:gE):zm:=(br (aQ s.1.1 (zN (len v0))) (bd (aT d1 v1) (fun p0=>(gd (bn s.1.1) (gd (bu (nN s.1.1) (len p0)) (bd (aT d1 v1) (fun p1=>(br (aQ a1 (ae .i64 (nth (0,0) p1 (nN s.1.1)).1 (nth (0,0) p1 (nN s.1.1)).2)) (v2 ((s.1.1,()),((),((),((),()))))) (k (((ae .i64 s.1.1 1),()),((),((),((),())))))))))))) (v2 (((-1),()),((),((),((),()))))))
def g.iZ (v0:gE→zm) (k:(gE→zm)) (s:gE):zm:=(br (aQ s.1.1 0) none (v0 (((-1),()),((),((),((),()))))))
def g.cT (a0:Nat) (a1:Int) (a2:Int) (d0:T3) (d1:T4):zm:=(jn (fun (k0:(Unit×U2)→_)=>(br (aQ a2 1) (some ((1,()),(d0,(d1,())))) (br (az (ak (cq a2 8) 0)) (some ((1,()),(d0,(d1,())))) (br (az (ak (cq a1 8) 0)) (some ((1,()),(d0,(d1,())))) (bd (g.ab a1 (nth (0,(0,none)) d0 a0).1 (aE .i64 (nth (0,(0,none)) d0 a0).2.1 1)) (fun p1=>(br (az p1.1.1) (some ((1,()),(d0,(d1,())))) (br (aQ (aE .i64 (nth (0,(0,none)) d0 a0).2.1 a1) a2) (some ((1,()),(d0,(d1,())))) (k0 ((),((),((),((),()))))))))))))) (fun (s2:(Unit×U2))=>(jn (fun (k3:gE→_)=>(opt (nth (0,(0,none)) d0 a0).2.2 (loop (g.iZ k3) ((0,()),((),((),((),()))))) (fun p6=>(bd (aT d1 p6) (fun p7=>(loop (g.du a1 d1 p7 p6 k3) ((0,()),((),((),((),())))))))))) (fun (Z5:gE)=>(jn (fun (UG:gE→_)=>(br (aQ Z5.1.1 0) (opt (nth (0,(0,none)) d0 a0).2.2 (UG ((0,()),((),((),((),()))))) (fun iB=>(bd (aT d1 iB) (fun dI=>(UG (((zN (len dI)),()),((),((),((),()))))))))) (UG ((Z5.1.1,()),((),((),((),()))))))) (fun (cn:gE)=>(jn (fun (Iy:(Unit×U2)→_)=>(opt (nth (0,(0,none)) d0 a0).2.2 (br (aQ cn.1.1 0) (opt (nth (0,(0,none)) d0 a0).2.2 none (fun fL=>(bd (aT d1 fL) (fun kF=>(gd (bn cn.1.1) (gd (bu (nN cn.1.1) (len kF)) (bd (aT d1 fL) (fun dT=>(br (aQ (nth (0,0) dT (nN cn.1.1)).1 (ae .i64 a1 a2)) (some ((1,()),(d0,(d1,())))) (Iy ((),((),((),((),())))))))))))))) (Iy ((),((),((),((),())))))) (fun mu=>(bd (aT d1 mu) (fun jh=>(br (aQ cn.1.1 (zN (len jh))) (opt (nth (0,(0,none)) d0 a0).2.2 none (fun fk=>(bd (aT d1 fk) (fun jX=>(gd (bn cn.1.1) (gd (bu (nN cn.1.1) (len jX)) (bd (aT d1 fk) (fun fq=>(br (aQ (nth (0,0) fq (nN cn.1.1)).1 (ae .i64 a1 a2)) (some ((1,()),(d0,(d1,())))) (Iy ((),((),((),((),())))))))))))))) (Iy ((),((),((),((),()))))))))))) (fun (s26:(Unit×U2))=>(opt (nth (0,(0,none)) d0 a0).2.2 (gd (IE cn.1.1 cn.1.1) (gd (bn cn.1.1) (gd (bp 0 (nN cn.1.1)) (gd (bp (nN cn.1.1) 0) (gd (bp (len [(a1,a2)]) 16777216) (opt (nth (0,(0,none)) d0 a0).2.2 (gd (bn cn.1.1) (gd (bp (nN cn.1.1) 0) (gd (bp (aK (len [(a1,a2)]) 0) 16777216) (loop (g.gB a0 a1 a2) ((0,()),((),((),((),((ah (0,(0,none)) d0 a0 (fun r9=>(r9.1,(r9.2.1,none)))),(d1,())))))))))) (fun xM=>(bd (aT d1 xM) (fun wy=>(gd (bn cn.1.1) (gd (bp (nN cn.1.1) (len wy)) (gd (bp (len wy) (len wy)) (bd (aT d1 xM) (fun GZ=>(gd (bp (aK (len [(a1,a2)]) (len (tk (ay (len wy) (nN cn.1.1)) (dr (nN cn.1.1) GZ)))) 16777216) (loop (g.gC a0 a1 a2 wy cn GZ) ((0,()),((),((),((),((ah (0,(0,none)) d0 a0 (fun D5=>(D5.1,(D5.2.1,none)))),(d1,())))))))))))))))))))))) (fun p86=>(gd (IE cn.1.1 cn.1.1) (bd (aT d1 p86) (fun p87=>(gd (bn cn.1.1) (gd (bp 0 (nN cn.1.1)) (gd (bp (nN cn.1.1) (len p87)) (br (ak (zN (ay (nN cn.1.1) 0)) 0) (gd (bp (len [(a1,a2)]) 16777216) (opt (nth (0,(0,none)) d0 a0).2.2 (gd (bn cn.1.1) (gd (bp (nN cn.1.1) 0) (gd (bp (aK (len [(a1,a2)]) 0) 16777216) (loop (g.gB a0 a1 a2) ((0,()),((),((),((),((ah (0,(0,none)) d0 a0 (fun nR=>(nR.1,(nR.2.1,none)))),(d1,())))))))))) (fun Uk=>(bd (aT d1 Uk) (fun Ep=>(gd (bn cn.1.1) (gd (bp (nN cn.1.1) (len Ep)) (gd (bp (len Ep) (len Ep)) (bd (aT d1 Uk) (fun Uj=>(gd (bp (aK (len [(a1,a2)]) (len (tk (ay (len Ep) (nN cn.1.1)) (dr (nN cn.1.1) Uj)))) 16777216) (loop (g.gC a0 a1 a2 Ep cn Uj) ((0,()),((),((),((),((ah (0,(0,none)) d0 a0 (fun mc=>(mc.1,(mc.2.1,none)))),(d1,())))))))))))))))))) (bd (aT d1 p86) (fun HZ=>(gd (bu 0 (len [(a1,a2)])) (gd (bp (aK (ay (nN cn.1.1) 0) (len [(a1,a2)])) 16777216) (opt (nth (0,(0,none)) d0 a0).2.2 (gd (bn cn.1.1) (gd (bp (nN cn.1.1) 0) (gd (bp (aK (len (cat (tk (ay (nN cn.1.1) 0) (dr 0 HZ)) [(a1,a2)])) 0) 16777216) (loop (g.mw a0 a1 a2 cn HZ) ((0,()),((),((),((),((ah (0,(0,none)) d0 a0 (fun D5=>(D5.1,(D5.2.1,none)))),(d1,())))))))))) (fun Ui=>(bd (aT d1 Ui) (fun Eo=>(gd (bn cn.1.1) (gd (bp (nN cn.1.1) (len Eo)) (gd (bp (len Eo) (len Eo)) (bd (aT d1 Ui) (fun Uh=>(gd (bp (aK (len (cat (tk (ay (nN cn.1.1) 0) (dr 0 HZ)) [(a1,a2)])) (len (tk (ay (len Eo) (nN cn.1.1)) (dr (nN cn.1.1) Uh)))) 16777216) (loop (g.i_ a0 a1 a2 cn HZ Eo Uh) ((0,()),((),((),((),((ah (0,(0,none)) d0 a0 (fun vJ=>(vJ.1,(vJ.2.1,none)))),(d1,()))))))))))))))))))))))))))))))))))))))
def aep:Plain Lk:=fun x c d=>g.cT x.1 x.2.1 x.2.2.1 d.1 d.2.1
theorem XW:bj Tryz.prog 133 Lk aep:=bD (ao mA (aH)) fun x c d=>by kernel_rfl
def Lj:da:=⟨[(true,(.pair (.ptr 1) (.pair (.pair (.int .i64) (.pair (.int .i64) (.pair (.int .i64) (.int .i64)))) (.int .i64)))),(false,(.int .i64))],[(false,(.int .u64))],[(1,R1),(2,R2)],[]⟩
def g.gh (a0:((Option Nat)×(U4×Int))) (a1:Int) (c0:T1) (c1:T2):pP:=(bd (g.db a0.2.1 a1 a0.2.2) (fun p0=>(opt a0.1 none (fun p1=>(bd (g.aP p1 p0.1.1 c0 c1) (fun p2=>(some ((p2.1.1,()),()))))))))
def aeo:Plain Lj:=fun x c d=>g.gh x.1 x.2.1 c.1 c.2.1
theorem XV:bj Tryz.prog 134 Lj aeo:=bD (ao zh (ao pE (aH))) fun x c d=>by kernel_rfl
def SY:da:=⟨[(true,(.pair (.ptr 1) (.pair (.pair (.int .i64) (.pair (.int .i64) (.pair (.int .i64) (.int .i64)))) (.int .i64)))),(false,(.cY 3))],[(false,(.int .i64))],[(1,R1)],[(2,R2),(3,R3),(4,R4)]⟩
def g.im (a0:((Option Nat)×(U4×Int))) (a1:Nat) (c0:T1) (d0:T2) (d1:T3) (d2:T4):(Option ((Int×Unit)×(T2×m8))):=(opt a0.1 none (fun p0=>(bd (g.gu a0.2.1 p0 a0.2.2 c0 d0) (fun p1=>(br (ak p1.1.1.1 0) (some ((11,()),(d0,(d1,(d2,()))))) (br (ak p1.1.1.1 1) (bd (g.gh a0 1 c0 d0) (fun p2=>(bd (g.gh a0 2 c0 d0) (fun p3=>(bd (g.cT a1 (cS .i64 p2.1.1) (cS .i64 p3.1.1) d1 d2) (fun p4=>(bd (g.bF a0 (0,(0,((-1),(bits .and .i64 (ae .i64 p1.1.1.2.2.2 1) 16777215)))) c0 d0) (fun p5=>(bd (g.aD a0 1 0 c0 p5.2.1) (fun p6=>(bd (g.aD a0 2 0 c0 p6.2.1) (fun p7=>(some ((0,()),(p7.2.1,(p4.2.1,(p4.2.2.1,()))))))))))))))))) (some ((12,()),(d0,(d1,(d2,())))))))))))
def F93:Plain SY:=fun x c d=>g.im x.1 x.2.1 c.1 d.1 d.2.1 d.2.2.1
theorem ac3:bj Tryz.prog 93 SY F93:=bD (ao N7 (ao Jg (ao Jf (ao XW (ao XV (aH)))))) fun x c d=>by kernel_rfl
def SV:da:=⟨[(false,(.cY 3)),(false,(.int .i64))],[(false,(.int .i64)),(false,.bool)],[],[(3,R3),(4,R4)]⟩
def g.bU (a1:Int) (d1:T4) (v0:(List (Int×Int))) (v1:Nat) (v2:gE→(Option ((Int×(Bool×Unit))×m8))) (k:(gE→(Option ((Int×(Bool×Unit))×m8)))) (s:gE):(Option ((Int×(Bool×Unit))×m8)):=(br (aQ s.1.1 (zN (len v0))) (bd (aT d1 v1) (fun p0=>(gd (bn s.1.1) (gd (bu (nN s.1.1) (len p0)) (bd (aT d1 v1) (fun p1=>(br (cP a1 (nth (0,0) p1 (nN s.1.1)).2) (v2 ((s.1.1,()),((),((),((),()))))) (k (((ae .i64 s.1.1 1),()),((),((),((),())))))))))))) (v2 (((-1),()),((),((),((),()))))))
def g.eh (v0:gE→(Option ((Int×(Bool×Unit))×m8))) (k:(gE→(Option ((Int×(Bool×Unit))×m8)))) (s:gE):(Option ((Int×(Bool×Unit))×m8)):=(br (aQ s.1.1 0) none (v0 (((-1),()),((),((),((),()))))))
def g.bN (a0:Nat) (a1:Int) (d0:T3) (d1:T4):(Option ((Int×(Bool×Unit))×m8)):=(jn (fun (k0:(Unit×U2)→_)=>(br (aQ a1 1) (some ((0,(false,())),(d0,(d1,())))) (br (az (ak (cq a1 8) 0)) (some ((0,(false,())),(d0,(d1,())))) (k0 ((),((),((),((),())))))))) (fun (s1:(Unit×U2))=>(jn (fun (k2:gE→_)=>(opt (nth (0,(0,none)) d0 a0).2.2 (loop (g.eh k2) ((0,()),((),((),((),()))))) (fun p5=>(bd (aT d1 p5) (fun p6=>(loop (g.bU a1 d1 p6 p5 k2) ((0,()),((),((),((),())))))))))) (fun (aJ:gE)=>(br (aQ aJ.1.1 0) (some ((0,(false,())),(d0,(d1,())))) (opt (nth (0,(0,none)) d0 a0).2.2 none (fun cA=>(bd (aT d1 cA) (fun cb=>(gd (bn aJ.1.1) (gd (bu (nN aJ.1.1) (len cb)) (bd (aT d1 cA) (fun iB=>(bd (aT d1 cA) (fun dI=>(bd (aT d1 cA) (fun eZ=>(bd (aT d1 cA) (fun gy=>(bd (aT (upd d1 cA (some (ah (0,0) gy (nN aJ.1.1) (fun D5=>((ae .i64 (nth (0,0) dI (nN aJ.1.1)).1 a1),D5.2))))) cA) (fun fL=>(bd (aT (upd (upd d1 cA (some (ah (0,0) gy (nN aJ.1.1) (fun HI=>((ae .i64 (nth (0,0) dI (nN aJ.1.1)).1 a1),HI.2))))) cA (some (ah (0,0) fL (nN aJ.1.1) (fun HI=>(HI.1,(aE .i64 (nth (0,0) eZ (nN aJ.1.1)).2 a1)))))) cA) (fun kF=>(br (ak (nth (0,0) kF (nN aJ.1.1)).2 0) (opt (nth (0,(0,none)) d0 a0).2.2 (gd (IE 0 (ae .i64 aJ.1.1 1)) (gd (bn aJ.1.1) (gd (bn (ae .i64 aJ.1.1 1)) (gd (bp (nN aJ.1.1) (nN (ae .i64 aJ.1.1 1))) (gd (bp (nN (ae .i64 aJ.1.1 1)) 0) (br (ak aJ.1.1 (ae .i64 aJ.1.1 1)) (some (((nth (0,0) iB (nN aJ.1.1)).1,(true,())),((ah (0,(0,none)) d0 a0 (fun mc=>(mc.1,(mc.2.1,none)))),((upd (upd d1 cA (some (ah (0,0) gy (nN aJ.1.1) (fun mc=>((ae .i64 (nth (0,0) dI (nN aJ.1.1)).1 a1),mc.2))))) cA (some (ah (0,0) fL (nN aJ.1.1) (fun mc=>(mc.1,(aE .i64 (nth (0,0) eZ (nN aJ.1.1)).2 a1)))))),())))) (gd (bn aJ.1.1) (gd (bp 0 (nN aJ.1.1)) (gd (bp (nN aJ.1.1) 0) (gd (bn (ae .i64 aJ.1.1 1)) (gd (bp (nN (ae .i64 aJ.1.1 1)) 0) (gd (bu 0 0) (some (((nth (0,0) iB (nN aJ.1.1)).1,(true,())),((ah (0,(0,none)) d0 a0 (fun mc=>(mc.1,(mc.2.1,(some (len (upd (upd d1 cA (some (ah (0,0) gy (nN aJ.1.1) (fun vJ=>((ae .i64 (nth (0,0) dI (nN aJ.1.1)).1 a1),vJ.2))))) cA (some (ah (0,0) fL (nN aJ.1.1) (fun vJ=>(vJ.1,(aE .i64 (nth (0,0) eZ (nN aJ.1.1)).2 a1)))))))))))),((cat (upd (upd d1 cA (some (ah (0,0) gy (nN aJ.1.1) (fun mc=>((ae .i64 (nth (0,0) dI (nN aJ.1.1)).1 a1),mc.2))))) cA (some (ah (0,0) fL (nN aJ.1.1) (fun mc=>(mc.1,(aE .i64 (nth (0,0) eZ (nN aJ.1.1)).2 a1)))))) [(some (cat (tk 0 []) (cat (rep (α:=(Int×Int)) 0 (0,0)) (dr 0 []))))]),())))))))))))))))) (fun dT=>(bd (aT (upd (upd d1 cA (some (ah (0,0) gy (nN aJ.1.1) (fun vJ=>((ae .i64 (nth (0,0) dI (nN aJ.1.1)).1 a1),vJ.2))))) cA (some (ah (0,0) fL (nN aJ.1.1) (fun vJ=>(vJ.1,(aE .i64 (nth (0,0) eZ (nN aJ.1.1)).2 a1)))))) dT) (fun mu=>(bd (aT (upd (upd d1 cA (some (ah (0,0) gy (nN aJ.1.1) (fun MJ=>((ae .i64 (nth (0,0) dI (nN aJ.1.1)).1 a1),MJ.2))))) cA (some (ah (0,0) fL (nN aJ.1.1) (fun MJ=>(MJ.1,(aE .i64 (nth (0,0) eZ (nN aJ.1.1)).2 a1)))))) dT) (fun jh=>(gd (bn aJ.1.1) (gd (bn (ae .i64 aJ.1.1 1)) (gd (bn (zN (len mu))) (gd (bp (nN aJ.1.1) (nN (ae .i64 aJ.1.1 1))) (gd (bp (nN (ae .i64 aJ.1.1 1)) (nN (zN (len mu)))) (gd (bp (nN (zN (len mu))) (len jh)) (br (ak aJ.1.1 (ae .i64 aJ.1.1 1)) (some (((nth (0,0) iB (nN aJ.1.1)).1,(true,())),((ah (0,(0,none)) d0 a0 (fun sR=>(sR.1,(sR.2.1,(some dT))))),((upd (upd d1 cA (some (ah (0,0) gy (nN aJ.1.1) (fun sR=>((ae .i64 (nth (0,0) dI (nN aJ.1.1)).1 a1),sR.2))))) cA (some (ah (0,0) fL (nN aJ.1.1) (fun sR=>(sR.1,(aE .i64 (nth (0,0) eZ (nN aJ.1.1)).2 a1)))))),())))) (bd (aT (upd (upd d1 cA (some (ah (0,0) gy (nN aJ.1.1) (fun sR=>((ae .i64 (nth (0,0) dI (nN aJ.1.1)).1 a1),sR.2))))) cA (some (ah (0,0) fL (nN aJ.1.1) (fun sR=>(sR.1,(aE .i64 (nth (0,0) eZ (nN aJ.1.1)).2 a1)))))) dT) (fun fk=>(bd (aT (upd (upd d1 cA (some (ah (0,0) gy (nN aJ.1.1) (fun MI=>((ae .i64 (nth (0,0) dI (nN aJ.1.1)).1 a1),MI.2))))) cA (some (ah (0,0) fL (nN aJ.1.1) (fun MI=>(MI.1,(aE .i64 (nth (0,0) eZ (nN aJ.1.1)).2 a1)))))) dT) (fun jX=>(gd (bn aJ.1.1) (gd (bp 0 (nN aJ.1.1)) (gd (bp (nN aJ.1.1) (len jX)) (bd (aT (upd (upd d1 cA (some (ah (0,0) gy (nN aJ.1.1) (fun rG=>((ae .i64 (nth (0,0) dI (nN aJ.1.1)).1 a1),rG.2))))) cA (some (ah (0,0) fL (nN aJ.1.1) (fun rG=>(rG.1,(aE .i64 (nth (0,0) eZ (nN aJ.1.1)).2 a1)))))) dT) (fun fq=>(gd (bn (ae .i64 aJ.1.1 1)) (gd (bp (nN (ae .i64 aJ.1.1 1)) (len fq)) (gd (bp (len fq) (len fq)) (bd (aT (upd (upd d1 cA (some (ah (0,0) gy (nN aJ.1.1) (fun lv=>((ae .i64 (nth (0,0) dI (nN aJ.1.1)).1 a1),lv.2))))) cA (some (ah (0,0) fL (nN aJ.1.1) (fun lv=>(lv.1,(aE .i64 (nth (0,0) eZ (nN aJ.1.1)).2 a1)))))) dT) (fun eN=>(bd (aT (upd (upd d1 cA (some (ah (0,0) gy (nN aJ.1.1) (fun gM=>((ae .i64 (nth (0,0) dI (nN aJ.1.1)).1 a1),gM.2))))) cA (some (ah (0,0) fL (nN aJ.1.1) (fun gM=>(gM.1,(aE .i64 (nth (0,0) eZ (nN aJ.1.1)).2 a1)))))) dT) (fun mr=>(gd (bp (aK (ay (nN aJ.1.1) 0) (len (tk (ay (len fq) (nN (ae .i64 aJ.1.1 1))) (dr (nN (ae .i64 aJ.1.1 1)) eN)))) (len mr)) (bd (aT (upd (upd (upd d1 cA (some (ah (0,0) gy (nN aJ.1.1) (fun dn=>((ae .i64 (nth (0,0) dI (nN aJ.1.1)).1 a1),dn.2))))) cA (some (ah (0,0) fL (nN aJ.1.1) (fun dn=>(dn.1,(aE .i64 (nth (0,0) eZ (nN aJ.1.1)).2 a1)))))) dT (some (cat (tk (ay (nN aJ.1.1) 0) mr) (cat (tk (ay (len fq) (nN (ae .i64 aJ.1.1 1))) (dr (nN (ae .i64 aJ.1.1 1)) eN)) (dr (aK (ay (nN aJ.1.1) 0) (len (tk (ay (len fq) (nN (ae .i64 aJ.1.1 1))) (dr (nN (ae .i64 aJ.1.1 1)) eN)))) mr))))) dT) (fun mD=>(gd (bn (zN (aK (ay (nN aJ.1.1) 0) (len (tk (ay (len fq) (nN (ae .i64 aJ.1.1 1))) (dr (nN (ae .i64 aJ.1.1 1)) eN)))))) (gd (bn (zN (len fk))) (gd (bp (nN (zN (aK (ay (nN aJ.1.1) 0) (len (tk (ay (len fq) (nN (ae .i64 aJ.1.1 1))) (dr (nN (ae .i64 aJ.1.1 1)) eN)))))) (nN (zN (len fk)))) (gd (bp (aK 0 (nN (zN (len fk)))) (len mD)) (bd (aT (upd (upd (upd d1 cA (some (ah (0,0) gy (nN aJ.1.1) (fun cd=>((ae .i64 (nth (0,0) dI (nN aJ.1.1)).1 a1),cd.2))))) cA (some (ah (0,0) fL (nN aJ.1.1) (fun cd=>(cd.1,(aE .i64 (nth (0,0) eZ (nN aJ.1.1)).2 a1)))))) dT (some (cat (tk (ay (nN aJ.1.1) 0) mr) (cat (tk (ay (len fq) (nN (ae .i64 aJ.1.1 1))) (dr (nN (ae .i64 aJ.1.1 1)) eN)) (dr (aK (ay (nN aJ.1.1) 0) (len (tk (ay (len fq) (nN (ae .i64 aJ.1.1 1))) (dr (nN (ae .i64 aJ.1.1 1)) eN)))) mr))))) dT) (fun jS=>(gd (bu 0 (ay (nN (zN (len fk))) (nN (zN (aK (ay (nN aJ.1.1) 0) (len (tk (ay (len fq) (nN (ae .i64 aJ.1.1 1))) (dr (nN (ae .i64 aJ.1.1 1)) eN)))))))) (bd (aT (upd (upd (upd (upd d1 cA (some (ah (0,0) gy (nN aJ.1.1) (fun bJ=>((ae .i64 (nth (0,0) dI (nN aJ.1.1)).1 a1),bJ.2))))) cA (some (ah (0,0) fL (nN aJ.1.1) (fun bJ=>(bJ.1,(aE .i64 (nth (0,0) eZ (nN aJ.1.1)).2 a1)))))) dT (some (cat (tk (ay (nN aJ.1.1) 0) mr) (cat (tk (ay (len fq) (nN (ae .i64 aJ.1.1 1))) (dr (nN (ae .i64 aJ.1.1 1)) eN)) (dr (aK (ay (nN aJ.1.1) 0) (len (tk (ay (len fq) (nN (ae .i64 aJ.1.1 1))) (dr (nN (ae .i64 aJ.1.1 1)) eN)))) mr))))) dT (some (cat (tk (aK 0 (nN (zN (aK (ay (nN aJ.1.1) 0) (len (tk (ay (len fq) (nN (ae .i64 aJ.1.1 1))) (dr (nN (ae .i64 aJ.1.1 1)) eN))))))) jS) (cat (rep (α:=(Int×Int)) (ay (nN (zN (len fk))) (nN (zN (aK (ay (nN aJ.1.1) 0) (len (tk (ay (len fq) (nN (ae .i64 aJ.1.1 1))) (dr (nN (ae .i64 aJ.1.1 1)) eN))))))) (0,0)) (dr (aK (aK 0 (nN (zN (aK (ay (nN aJ.1.1) 0) (len (tk (ay (len fq) (nN (ae .i64 aJ.1.1 1))) (dr (nN (ae .i64 aJ.1.1 1)) eN))))))) (ay (nN (zN (len fk))) (nN (zN (aK (ay (nN aJ.1.1) 0) (len (tk (ay (len fq) (nN (ae .i64 aJ.1.1 1))) (dr (nN (ae .i64 aJ.1.1 1)) eN)))))))) jS))))) dT) (fun MW=>(some (((nth (0,0) iB (nN aJ.1.1)).1,(true,())),((ah (0,(0,none)) d0 a0 (fun bt=>(bt.1,(bt.2.1,(some (len (upd (upd (upd (upd d1 cA (some (ah (0,0) gy (nN aJ.1.1) (fun cF=>((ae .i64 (nth (0,0) dI (nN aJ.1.1)).1 a1),cF.2))))) cA (some (ah (0,0) fL (nN aJ.1.1) (fun cF=>(cF.1,(aE .i64 (nth (0,0) eZ (nN aJ.1.1)).2 a1)))))) dT (some (cat (tk (ay (nN aJ.1.1) 0) mr) (cat (tk (ay (len fq) (nN (ae .i64 aJ.1.1 1))) (dr (nN (ae .i64 aJ.1.1 1)) eN)) (dr (aK (ay (nN aJ.1.1) 0) (len (tk (ay (len fq) (nN (ae .i64 aJ.1.1 1))) (dr (nN (ae .i64 aJ.1.1 1)) eN)))) mr))))) dT (some (cat (tk (aK 0 (nN (zN (aK (ay (nN aJ.1.1) 0) (len (tk (ay (len fq) (nN (ae .i64 aJ.1.1 1))) (dr (nN (ae .i64 aJ.1.1 1)) eN))))))) jS) (cat (rep (α:=(Int×Int)) (ay (nN (zN (len fk))) (nN (zN (aK (ay (nN aJ.1.1) 0) (len (tk (ay (len fq) (nN (ae .i64 aJ.1.1 1))) (dr (nN (ae .i64 aJ.1.1 1)) eN))))))) (0,0)) (dr (aK (aK 0 (nN (zN (aK (ay (nN aJ.1.1) 0) (len (tk (ay (len fq) (nN (ae .i64 aJ.1.1 1))) (dr (nN (ae .i64 aJ.1.1 1)) eN))))))) (ay (nN (zN (len fk))) (nN (zN (aK (ay (nN aJ.1.1) 0) (len (tk (ay (len fq) (nN (ae .i64 aJ.1.1 1))) (dr (nN (ae .i64 aJ.1.1 1)) eN)))))))) jS))))))))))),((cat (upd (upd (upd (upd (upd d1 cA (some (ah (0,0) gy (nN aJ.1.1) (fun bt=>((ae .i64 (nth (0,0) dI (nN aJ.1.1)).1 a1),bt.2))))) cA (some (ah (0,0) fL (nN aJ.1.1) (fun bt=>(bt.1,(aE .i64 (nth (0,0) eZ (nN aJ.1.1)).2 a1)))))) dT (some (cat (tk (ay (nN aJ.1.1) 0) mr) (cat (tk (ay (len fq) (nN (ae .i64 aJ.1.1 1))) (dr (nN (ae .i64 aJ.1.1 1)) eN)) (dr (aK (ay (nN aJ.1.1) 0) (len (tk (ay (len fq) (nN (ae .i64 aJ.1.1 1))) (dr (nN (ae .i64 aJ.1.1 1)) eN)))) mr))))) dT (some (cat (tk (aK 0 (nN (zN (aK (ay (nN aJ.1.1) 0) (len (tk (ay (len fq) (nN (ae .i64 aJ.1.1 1))) (dr (nN (ae .i64 aJ.1.1 1)) eN))))))) jS) (cat (rep (α:=(Int×Int)) (ay (nN (zN (len fk))) (nN (zN (aK (ay (nN aJ.1.1) 0) (len (tk (ay (len fq) (nN (ae .i64 aJ.1.1 1))) (dr (nN (ae .i64 aJ.1.1 1)) eN))))))) (0,0)) (dr (aK (aK 0 (nN (zN (aK (ay (nN aJ.1.1) 0) (len (tk (ay (len fq) (nN (ae .i64 aJ.1.1 1))) (dr (nN (ae .i64 aJ.1.1 1)) eN))))))) (ay (nN (zN (len fk))) (nN (zN (aK (ay (nN aJ.1.1) 0) (len (tk (ay (len fq) (nN (ae .i64 aJ.1.1 1))) (dr (nN (ae .i64 aJ.1.1 1)) eN)))))))) jS))))) dT none) [(some (tk (aK (ay (nN aJ.1.1) 0) (len (tk (ay (len fq) (nN (ae .i64 aJ.1.1 1))) (dr (nN (ae .i64 aJ.1.1 1)) eN)))) MW))]),()))))))))))))))))))))))))))))))))))))))))))))) (some (((nth (0,0) iB (nN aJ.1.1)).1,(true,())),(d0,((upd (upd d1 cA (some (ah (0,0) gy (nN aJ.1.1) (fun mc=>((ae .i64 (nth (0,0) dI (nN aJ.1.1)).1 a1),mc.2))))) cA (some (ah (0,0) fL (nN aJ.1.1) (fun mc=>(mc.1,(aE .i64 (nth (0,0) eZ (nN aJ.1.1)).2 a1)))))),()))))))))))))))))))))))))))))
def F96:Plain SV:=fun x c d=>g.bN x.1 x.2.1 d.1 d.2.1
theorem ac2:bj Tryz.prog 96 SV F96:=bD (aH) fun x c d=>by kernel_rfl
def Tl:da:=⟨[(true,(.pair (.int .i64) (.pair (.int .i64) (.pair (.int .i64) (.int .i64))))),(false,(.cY 1)),(false,(.cY 3)),(true,(.pair (.pair (.int .u8) (.pair (.int .u8) (.pair (.int .u8) (.pair (.int .u8) (.pair (.int .i64) (.pair (.int .i64) (.int .i64))))))) (.pair (.int .i64) (.pair (.int .i64) (.pair (.int .u64) (.pair (.int .u64) (.pair (.aF (.pair (.int .i64) .bool)) (.pair (.int .u64) (.pair (.int .u64) (.pair (.int .i64) (.pair (.int .i64) (.pair (.aF (.int .i64)) (.pair (.int .i64) (.pair (.aF (.int .i64)) (.pair (.int .i64) (.pair .bool (.pair .bool (.pair .bool (.pair (.int .i64) (.pair (.int .i64) (.aF (.int .i64))))))))))))))))))))))],[(true,(.pair (.pair (.int .u8) (.pair (.int .u8) (.pair (.int .u8) (.pair (.int .u8) (.pair (.int .i64) (.pair (.int .i64) (.int .i64))))))) (.pair (.int .i64) (.pair (.int .i64) (.pair (.int .u64) (.pair (.int .u64) (.pair (.aF (.pair (.int .i64) .bool)) (.pair (.int .u64) (.pair (.int .u64) (.pair (.int .i64) (.pair (.int .i64) (.pair (.aF (.int .i64)) (.pair (.int .i64) (.pair (.aF (.int .i64)) (.pair (.int .i64) (.pair .bool (.pair .bool (.pair .bool (.pair (.int .i64) (.pair (.int .i64) (.aF (.int .i64)))))))))))))))))))))),(false,(.int .i64))],[(1,R1)],[(2,R2),(3,R3),(4,R4)]⟩
def g.ju (a0:U4) (a1:Nat) (a2:Nat) (a3:U1) (c0:T1) (k:(((Int×Unit)×(Unit×(Unit×((U6×Unit)×(T2×m8)))))→(Option ((U1×(Int×Unit))×(T2×m8))))) (s:((Int×Unit)×(Unit×(Unit×((U6×Unit)×(T2×m8)))))):(Option ((U1×(Int×Unit))×(T2×m8))):=(br (aQ s.1.1 a0.1) (bd (g.gu a0 a1 s.1.1 c0 s.2.2.2.2.1) (fun p0=>(br (az (ak p0.1.1.1 0)) (k (((ae .i64 s.1.1 1),()),((),((),(((s.2.2.2.1.1.1,(s.2.2.2.1.1.2.1,(s.2.2.2.1.1.2.2.1,(s.2.2.2.1.1.2.2.2.1,(s.2.2.2.1.1.2.2.2.2.1,(s.2.2.2.1.1.2.2.2.2.2.1,(s.2.2.2.1.1.2.2.2.2.2.2.1,(s.2.2.2.1.1.2.2.2.2.2.2.2.1,(s.2.2.2.1.1.2.2.2.2.2.2.2.2.1,(s.2.2.2.1.1.2.2.2.2.2.2.2.2.2.1,(s.2.2.2.1.1.2.2.2.2.2.2.2.2.2.2.1,(s.2.2.2.1.1.2.2.2.2.2.2.2.2.2.2.2.1,(s.2.2.2.1.1.2.2.2.2.2.2.2.2.2.2.2.2.1,(s.2.2.2.1.1.2.2.2.2.2.2.2.2.2.2.2.2.2.1,(s.2.2.2.1.1.2.2.2.2.2.2.2.2.2.2.2.2.2.2.1,(s.2.2.2.1.1.2.2.2.2.2.2.2.2.2.2.2.2.2.2.2.1,(s.2.2.2.1.1.2.2.2.2.2.2.2.2.2.2.2.2.2.2.2.2.1,(s.2.2.2.1.1.2.2.2.2.2.2.2.2.2.2.2.2.2.2.2.2.2.1,(s.2.2.2.1.1.2.2.2.2.2.2.2.2.2.2.2.2.2.2.2.2.2.2.1,(s.2.2.2.1.1.2.2.2.2.2.2.2.2.2.2.2.2.2.2.2.2.2.2.2.1,(s.2.2.2.1.1.2.2.2.2.2.2.2.2.2.2.2.2.2.2.2.2.2.2.2.2.1,(s.2.2.2.1.1.2.2.2.2.2.2.2.2.2.2.2.2.2.2.2.2.2.2.2.2.2.1,(s.2.2.2.1.1.2.2.2.2.2.2.2.2.2.2.2.2.2.2.2.2.2.2.2.2.2.2.1,(s.2.2.2.1.1.2.2.2.2.2.2.2.2.2.2.2.2.2.2.2.2.2.2.2.2.2.2.2.1,(s.2.2.2.1.1.2.2.2.2.2.2.2.2.2.2.2.2.2.2.2.2.2.2.2.2.2.2.2.2.1,(s.2.2.2.1.1.2.2.2.2.2.2.2.2.2.2.2.2.2.2.2.2.2.2.2.2.2.2.2.2.2.1,())))))))))))))))))))))))))),()),(s.2.2.2.2.1,(s.2.2.2.2.2.1,(s.2.2.2.2.2.2.1,())))))))) (bd (g.ot a3.1.2.2.2.2.1) (fun p1=>(bd (g.bN a2 p1.1.1 s.2.2.2.2.2.1 s.2.2.2.2.2.2.1) (fun p2=>(br (az p2.1.2.1) (bd (g.a_ a3 14 0) (fun p3=>(some ((p3.1.1,(0,())),(s.2.2.2.2.1,(p2.2.1,(p2.2.2.1,()))))))) (bd (g.bF ((some a1),(a0,s.1.1)) (1,p0.1.1.2) c0 s.2.2.2.2.1) (fun p4=>(bd (g.aD ((some a1),(a0,s.1.1)) 1 (cS .u64 p2.1.1) c0 p4.2.1) (fun p5=>(bd (g.aD ((some a1),(a0,s.1.1)) 2 (cS .u64 p1.1.1) c0 p5.2.1) (fun p6=>(bd (g.aD ((some a1),(a0,s.1.1)) 3 0 c0 p6.2.1) (fun p7=>(bd (g.aD ((some a1),(a0,s.1.1)) 4 0 c0 p7.2.1) (fun p8=>(bd (g.a_ a3 0 s.1.1) (fun p9=>(some ((p9.1.1,(0,())),(p8.2.1,(p2.2.1,(p2.2.2.1,()))))))))))))))))))))))))) (bd (g.a_ a3 13 0) (fun gI=>(some ((gI.1.1,(0,())),(s.2.2.2.2.1,(s.2.2.2.2.2.1,(s.2.2.2.2.2.2.1,()))))))))
def g.jl (a0:U4) (a1:Nat) (a2:Nat) (a3:U1) (c0:T1) (d0:T2) (d1:T3) (d2:T4):(Option ((U1×(Int×Unit))×(T2×m8))):=(jn (fun (k0:U0→_)=>(br a3.2.2.2.2.2.2.2.2.2.2.2.2.2.2.2.1 (some ((((0,(0,(0,(0,(0,(0,0)))))),(0,(0,(0,(0,([],(0,(0,(0,(0,([],(0,([],(0,(false,(false,(false,(0,(0,[]))))))))))))))))))),(1,())),(d0,(d1,(d2,()))))) (br (az (ak a3.2.1 1)) (some ((((0,(0,(0,(0,(0,(0,0)))))),(0,(0,(0,(0,([],(0,(0,(0,(0,([],(0,([],(0,(false,(false,(false,(0,(0,[]))))))))))))))))))),(1,())),(d0,(d1,(d2,()))))) (k0 ((),((),((),(((0,(0,(0,(0,(0,(0,(0,(0,(0,(0,(0,([],(0,(0,(0,(0,([],(0,([],(0,(false,(false,(false,(0,(0,([],())))))))))))))))))))))))))),()),())))))))) (fun (s1:U0)=>(br (ak a3.1.1 3) (bd (g.im ((some a1),(a0,a3.1.2.2.2.2.1)) a2 c0 d0 d1 d2) (fun p2=>(bd (g.a_ a3 p2.1.1 0) (fun p3=>(some ((p3.1.1,(0,())),(p2.2.1,(p2.2.2.1,(p2.2.2.2.1,()))))))))) (loop (g.ju a0 a1 a2 a3 c0) ((0,()),((),((),(((s1.2.2.2.1.1.1,(s1.2.2.2.1.1.2.1,(s1.2.2.2.1.1.2.2.1,(s1.2.2.2.1.1.2.2.2.1,(s1.2.2.2.1.1.2.2.2.2.1,(s1.2.2.2.1.1.2.2.2.2.2.1,(s1.2.2.2.1.1.2.2.2.2.2.2.1,(s1.2.2.2.1.1.2.2.2.2.2.2.2.1,(s1.2.2.2.1.1.2.2.2.2.2.2.2.2.1,(s1.2.2.2.1.1.2.2.2.2.2.2.2.2.2.1,(s1.2.2.2.1.1.2.2.2.2.2.2.2.2.2.2.1,(s1.2.2.2.1.1.2.2.2.2.2.2.2.2.2.2.2.1,(s1.2.2.2.1.1.2.2.2.2.2.2.2.2.2.2.2.2.1,(s1.2.2.2.1.1.2.2.2.2.2.2.2.2.2.2.2.2.2.1,(s1.2.2.2.1.1.2.2.2.2.2.2.2.2.2.2.2.2.2.2.1,(s1.2.2.2.1.1.2.2.2.2.2.2.2.2.2.2.2.2.2.2.2.1,(s1.2.2.2.1.1.2.2.2.2.2.2.2.2.2.2.2.2.2.2.2.2.1,(s1.2.2.2.1.1.2.2.2.2.2.2.2.2.2.2.2.2.2.2.2.2.2.1,(s1.2.2.2.1.1.2.2.2.2.2.2.2.2.2.2.2.2.2.2.2.2.2.2.1,(s1.2.2.2.1.1.2.2.2.2.2.2.2.2.2.2.2.2.2.2.2.2.2.2.2.1,(s1.2.2.2.1.1.2.2.2.2.2.2.2.2.2.2.2.2.2.2.2.2.2.2.2.2.1,(s1.2.2.2.1.1.2.2.2.2.2.2.2.2.2.2.2.2.2.2.2.2.2.2.2.2.2.1,(s1.2.2.2.1.1.2.2.2.2.2.2.2.2.2.2.2.2.2.2.2.2.2.2.2.2.2.2.1,(s1.2.2.2.1.1.2.2.2.2.2.2.2.2.2.2.2.2.2.2.2.2.2.2.2.2.2.2.2.1,(s1.2.2.2.1.1.2.2.2.2.2.2.2.2.2.2.2.2.2.2.2.2.2.2.2.2.2.2.2.2.1,(s1.2.2.2.1.1.2.2.2.2.2.2.2.2.2.2.2.2.2.2.2.2.2.2.2.2.2.2.2.2.2.1,())))))))))))))))))))))))))),()),(d0,(d1,(d2,())))))))))))
def F61:Plain Tl:=fun x c d=>g.jl x.1 x.2.1 x.2.2.1 x.2.2.2.1 c.1 d.1 d.2.1 d.2.2.1
theorem ada:bj Tryz.prog 61 Tl F61:=bD (ao N7 (ao Jg (ao CM (ao ac3 (ao Jf (ao Xm (ao ac2 (aH)))))))) fun x c d=>by kernel_rfl
def K3:da:=⟨[(true,(.pair (.int .i64) (.pair (.int .i64) (.pair (.int .i64) (.pair .bool (.pair (.int .i64) (.int .i64)))))))],[(false,.bool)],[],[]⟩
def g.lZ (a0:(Int×(Int×(Int×(Bool×(Int×Int)))))):mF:=(bd (g.ab a0.2.1 0 6) (fun p0=>(br p0.1.1 (bd (g.ab a0.1 (ae .i64 2 a0.2.1) 72) (fun p1=>(br p1.1.1 (bd (g.ab a0.2.2.1 0 7) (fun p2=>(br p2.1.1 (bd (g.ab a0.2.2.2.2.1 0 7) (fun p3=>(br p3.1.1 (bd (g.ab a0.2.2.2.2.2 0 16777215) (fun p4=>(some ((p4.1.1,()),())))) (some ((false,()),()))))) (some ((false,()),()))))) (some ((false,()),()))))) (some ((false,()),())))))
def ad9:Plain K3:=fun x c d=>g.lZ x.1
theorem XK:bj Tryz.prog 204 K3 ad9:=bD (ao mA (aH)) fun x c d=>by kernel_rfl
def Lf:da:=⟨[(true,(.pair (.int .i64) (.pair (.int .i64) (.pair (.int .i64) (.pair .bool (.pair (.int .i64) (.int .i64)))))))],[(false,(.int .u64)),(false,(.int .u64)),(false,(.int .i64))],[],[]⟩
def g.kb (a0:(Int×(Int×(Int×(Bool×(Int×Int)))))):(Option ((Int×ja)×Unit)):=(bd (g.lZ a0) (fun p0=>(br (az p0.1.1) (some ((0,(0,(1,()))),())) (jn (fun (k1:gE→_)=>(br a0.2.2.2.1 (k1 (((bits .or .u64 (bits .or .u64 (bits .or .u64 (bits .or .u64 11889503016258109440 (lU .u64 (cS .u64 a0.2.2.1) 40)) (lU .u64 (cS .u64 a0.2.1) 32)) (cS .u64 a0.1)) 281474976710656),()),((),((),((),()))))) (k1 (((bits .or .u64 (bits .or .u64 (bits .or .u64 11889503016258109440 (lU .u64 (cS .u64 a0.2.2.1) 40)) (lU .u64 (cS .u64 a0.2.1) 32)) (cS .u64 a0.1)),()),((),((),((),()))))))) (fun (s2:gE)=>(some ((s2.1.1,((bits .or .u64 (lU .u64 (cS .u64 a0.2.2.2.2.2) 8) (cS .u64 a0.2.2.2.2.1)),(0,()))),())))))))
def aek:Plain Lf:=fun x c d=>g.kb x.1
theorem Ge:bj Tryz.prog 142 Lf aek:=bD (ao XK (aH)) fun x c d=>by kernel_rfl
def Ld:da:=⟨[(false,(.cY 1)),(false,(.int .i64)),(false,(.int .u64)),(false,(.int .u64)),(false,(.int .i64)),(false,(.int .u64)),(false,(.int .u64))],[(false,(.int .u64)),(false,.bool),(false,(.int .i64))],[(1,R1)],[(2,R2)]⟩
def g.gG (a0:Nat) (a1:Int) (a2:Int) (a3:Int) (a4:Int) (a5:Int) (a6:Int) (c0:T1) (d0:T2):(Option ((Int×(Bool×(Int×Unit)))×(T2×Unit))):=(bd (g.aP a0 a1 c0 d0) (fun p0=>(jn (fun (k1:(Unit×U2)→_)=>(br (az (ak p0.1.2.1 0)) (some ((0,(false,(p0.1.2.1,()))),(d0,()))) (jn (fun (k2:iV→_)=>(br (aQ a3 p0.1.1) (k2 ((true,()),((),((),((),()))))) (k2 (((aQ (aE .u64 a3 p0.1.1) a2),()),((),((),((),()))))))) (fun (s3:iV)=>(br s3.1.1 (some ((p0.1.1,(false,(0,()))),(d0,()))) (br (aQ 65536 p0.1.1) (some ((0,(false,(1,()))),(d0,()))) (bd (g.ab a4 0 65536) (fun p4=>(br (az p4.1.1) (some ((0,(false,(1,()))),(d0,()))) (k1 ((),((),((),((),())))))))))))))) (fun (s5:(Unit×U2))=>(jn (fun (k6:(Unit×U2)→_)=>(bd (g.cN a0 (ae .i64 a4 (cS .i64 p0.1.1)) c0 d0) (fun p7=>(br (az p7.1.1) (some ((0,(false,(1,()))),(d0,()))) (bd (g.cN a0 (ae .i64 (ae .i64 a4 (cS .i64 p0.1.1)) 8) c0 d0) (fun p8=>(br (az p8.1.1) (some ((0,(false,(1,()))),(d0,()))) (k6 ((),((),((),((),())))))))))))) (fun (s9:(Unit×U2))=>(bd (g.aZ a0 a1 (ae .u64 p0.1.1 a2) c0 d0) (fun gI=>(bd (g.aZ a0 (ae .i64 a4 (cS .i64 p0.1.1)) a5 c0 gI.2.1) (fun kV=>(bd (g.aZ a0 (ae .i64 (ae .i64 a4 (cS .i64 p0.1.1)) 8) a6 c0 kV.2.1) (fun cA=>(some ((p0.1.1,(true,(0,()))),(cA.2.1,())))))))))))))))
def aej:Plain Ld:=fun x c d=>g.gG x.1 x.2.1 x.2.2.1 x.2.2.2.1 x.2.2.2.2.1 x.2.2.2.2.2.1 x.2.2.2.2.2.2.1 c.1 d.1
theorem XT:bj Tryz.prog 143 Ld aej:=bD (ao mA (ao CL (ao Gg (ao pE (aH))))) fun x c d=>by kernel_rfl
def Tk:da:=⟨[(true,(.pair (.int .i64) (.pair (.int .i64) (.pair (.int .i64) (.int .i64))))),(false,(.cY 1)),(true,(.pair (.pair (.int .u8) (.pair (.int .u8) (.pair (.int .u8) (.pair (.int .u8) (.pair (.int .i64) (.pair (.int .i64) (.int .i64))))))) (.pair (.int .i64) (.pair (.int .i64) (.pair (.int .u64) (.pair (.int .u64) (.pair (.aF (.pair (.int .i64) .bool)) (.pair (.int .u64) (.pair (.int .u64) (.pair (.int .i64) (.pair (.int .i64) (.pair (.aF (.int .i64)) (.pair (.int .i64) (.pair (.aF (.int .i64)) (.pair (.int .i64) (.pair .bool (.pair .bool (.pair .bool (.pair (.int .i64) (.pair (.int .i64) (.aF (.int .i64))))))))))))))))))))))],[(true,(.pair (.pair (.int .u8) (.pair (.int .u8) (.pair (.int .u8) (.pair (.int .u8) (.pair (.int .i64) (.pair (.int .i64) (.int .i64))))))) (.pair (.int .i64) (.pair (.int .i64) (.pair (.int .u64) (.pair (.int .u64) (.pair (.aF (.pair (.int .i64) .bool)) (.pair (.int .u64) (.pair (.int .u64) (.pair (.int .i64) (.pair (.int .i64) (.pair (.aF (.int .i64)) (.pair (.int .i64) (.pair (.aF (.int .i64)) (.pair (.int .i64) (.pair .bool (.pair .bool (.pair .bool (.pair (.int .i64) (.pair (.int .i64) (.aF (.int .i64)))))))))))))))))))))),(false,(.int .i64))],[(1,R1)],[(2,R2)]⟩
def g.lh (a0:U4) (a1:Nat) (a2:U1) (c0:T1) (d0:T2):(Option ((U1×(Int×Unit))×(T2×Unit))):=(br (ak a2.2.1 5) (jn (fun (k0:U0→_)=>(br a2.2.2.2.2.2.2.2.2.2.2.2.2.2.2.2.1 (some ((((0,(0,(0,(0,(0,(0,0)))))),(0,(0,(0,(0,([],(0,(0,(0,(0,([],(0,([],(0,(false,(false,(false,(0,(0,[]))))))))))))))))))),(1,())),(d0,()))) (k0 ((),((),((),(((0,(0,(0,(0,(0,(0,(0,(0,(0,(0,(0,([],(0,(0,(0,(0,([],(0,([],(0,(false,(false,(false,(0,(0,([],())))))))))))))))))))))))))),()),()))))))) (fun (s1:U0)=>(bd (g.gu a0 a1 a2.2.2.1 c0 d0) (fun p2=>(some (((a2.1,(2,(a2.2.2.1,(a2.2.2.2.1,(a2.2.2.2.2.1,(a2.2.2.2.2.2.1,(a2.2.2.2.2.2.2.1,((cS .u64 p2.1.1.2.2.2),a2.2.2.2.2.2.2.2.2)))))))),(0,())),(d0,()))))))) (br (ak a2.2.1 2) (jn (fun (k3:U0→_)=>(br a2.2.2.2.2.2.2.2.2.2.2.2.2.2.2.2.1 (some ((((0,(0,(0,(0,(0,(0,0)))))),(0,(0,(0,(0,([],(0,(0,(0,(0,([],(0,([],(0,(false,(false,(false,(0,(0,[]))))))))))))))))))),(1,())),(d0,()))) (k3 ((),((),((),(((0,(0,(0,(0,(0,(0,(0,(0,(0,(0,(0,([],(0,(0,(0,(0,([],(0,([],(0,(false,(false,(false,(0,(0,([],())))))))))))))))))))))))))),()),()))))))) (fun (s4:U0)=>(bd (g.db a0 1 a2.2.2.1) (fun p5=>(bd (g.aP a1 p5.1.1 c0 d0) (fun p6=>(some (((a2.1,(3,(a2.2.2.1,(a2.2.2.2.1,(a2.2.2.2.2.1,(a2.2.2.2.2.2.1,(a2.2.2.2.2.2.2.1,(a2.2.2.2.2.2.2.2.1,((cS .i64 p6.1.1),a2.2.2.2.2.2.2.2.2.2))))))))),(0,())),(d0,()))))))))) (br (ak a2.2.1 3) (jn (fun (k7:U0→_)=>(br a2.2.2.2.2.2.2.2.2.2.2.2.2.2.2.2.1 (some ((((0,(0,(0,(0,(0,(0,0)))))),(0,(0,(0,(0,([],(0,(0,(0,(0,([],(0,([],(0,(false,(false,(false,(0,(0,[]))))))))))))))))))),(1,())),(d0,()))) (k7 ((),((),((),(((0,(0,(0,(0,(0,(0,(0,(0,(0,(0,(0,([],(0,(0,(0,(0,([],(0,([],(0,(false,(false,(false,(0,(0,([],())))))))))))))))))))))))))),()),()))))))) (fun (s8:U0)=>(bd (g.db a0 2 a2.2.2.1) (fun p9=>(bd (g.aP a1 p9.1.1 c0 d0) (fun gI=>(some (((a2.1,(4,(a2.2.2.1,(a2.2.2.2.1,(a2.2.2.2.2.1,(a2.2.2.2.2.2.1,(gI.1.1,a2.2.2.2.2.2.2.2))))))),(0,())),(d0,()))))))))) (br (ak a2.2.1 4) (jn (fun (k11:U0→_)=>(br a2.2.2.2.2.2.2.2.2.2.2.2.2.2.2.2.1 (some ((((0,(0,(0,(0,(0,(0,0)))))),(0,(0,(0,(0,([],(0,(0,(0,(0,([],(0,([],(0,(false,(false,(false,(0,(0,[]))))))))))))))))))),(1,())),(d0,()))) (k11 ((),((),((),(((0,(0,(0,(0,(0,(0,(0,(0,(0,(0,(0,([],(0,(0,(0,(0,([],(0,([],(0,(false,(false,(false,(0,(0,([],())))))))))))))))))))))))))),()),()))))))) (fun (Z5:U0)=>(bd (g.gR a2.1.2.2.2.2.1 a2.1.2.2.2.2.2.1) (fun cb=>(bd (g.kb (cb.1.1,(a2.1.2.2.2.2.1,(a2.1.2.2.2.2.2.2,(false,(a2.2.2.1,(cS .i64 a2.2.2.2.2.2.2.2.1))))))) (fun iB=>(bd (g.db a0 3 a2.2.2.1) (fun dI=>(bd (g.gG a1 dI.1.1 (cS .u64 (cm .i64 cb.1.1 8)) a2.2.2.2.2.2.2.1 a2.2.2.2.2.2.2.2.2.1 iB.1.1 iB.1.2.1 c0 d0) (fun eZ=>(br (az eZ.1.2.1) (bd (g.a_ a2 17 0) (fun gy=>(some ((gy.1.1,(0,())),(eZ.2.1,()))))) (bd (g.mH (a2.2.2.1,((cS .i64 a2.2.2.2.2.2.2.2.1),(ae .i64 a2.2.2.2.2.2.2.2.2.1 (cS .i64 eZ.1.1))))) (fun fL=>(bd (g.a_ a2 0 (cS .i64 fL.1.1)) (fun kF=>(some ((kF.1.1,(0,())),(eZ.2.1,())))))))))))))))))) (jn (fun (k20:U0→_)=>(br a2.2.2.2.2.2.2.2.2.2.2.2.2.2.2.2.1 (some ((((0,(0,(0,(0,(0,(0,0)))))),(0,(0,(0,(0,([],(0,(0,(0,(0,([],(0,([],(0,(false,(false,(false,(0,(0,[]))))))))))))))))))),(1,())),(d0,()))) (some ((((0,(0,(0,(0,(0,(0,0)))))),(0,(0,(0,(0,([],(0,(0,(0,(0,([],(0,([],(0,(false,(false,(false,(0,(0,[]))))))))))))))))))),(1,())),(d0,()))))) (fun (GY:U0)=>none))))))
def F62:Plain Tk:=fun x c d=>g.lh x.1 x.2.1 x.2.2.1 c.1 d.1
theorem ac_:bj Tryz.prog 62 Tk F62:=bD (ao CM (ao zh (ao Xn (ao Jf (ao pE (ao Ge (ao XT (ao Ma (aH))))))))) fun x c d=>by kernel_rfl
def Lb:da:=⟨[(true,(.pair (.int .i64) (.pair (.int .i64) (.pair (.int .i64) (.int .i64))))),(false,(.int .i64))],[(true,(.pair (.int .i64) (.pair (.int .i64) (.pair (.int .i64) (.int .i64))))),(false,(.int .i64))],[],[]⟩
def g.kf (a0:U4) (a1:Int):(Option ((U4×(Int×Unit))×Unit)):=(jn (fun (k0:(Unit×(Unit×(Unit×(((Int×(Int×ja))×((Int×(Int×ja))×Unit))×Unit))))→_)=>(jn (fun (k1:iV→_)=>(bd (g.fM a0) (fun p2=>(br (az p2.1.1) (k1 ((true,()),((),((),((),()))))) (bd (g.ab a1 0 7) (fun p3=>(k1 (((az p3.1.1),()),((),((),((),()))))))))))) (fun (s4:iV)=>(br s4.1.1 (some (((0,(0,(0,0))),(1,())),())) (br (ak a0.1 0) (some (((0,(0,(0,0))),(11,())),())) (br (ak a0.1 3) (some (((0,(0,(0,0))),(10,())),())) (br (ak a0.1 1) (k0 ((),((),((),(((2,(a0.2.1,(a1,(a0.2.2.2,())))),((0,(0,(0,(0,())))),())),()))))) (br (az (ak a0.2.2.1 a1)) (some (((0,(0,(0,0))),(15,())),())) (br (ak a0.2.1 7) (some (((0,(0,(0,0))),(16,())),())) (k0 ((),((),((),(((a0.1,(a0.2.1,(a0.2.2.1,(a0.2.2.2,())))),((0,(0,(0,(0,())))),())),())))))))))))))) (fun (s5:(Unit×(Unit×(Unit×(((Int×(Int×ja))×((Int×(Int×ja))×Unit))×Unit)))))=>(some (((s5.2.2.2.1.1.1,((ae .i64 s5.2.2.2.1.1.2.1 1),(s5.2.2.2.1.1.2.2.1,s5.2.2.2.1.1.2.2.2.1))),(0,())),()))))
def aeh:Plain Lb:=fun x c d=>g.kf x.1 x.2.1
theorem XS:bj Tryz.prog 145 Lb aeh:=bD (ao mA (ao A0 (aH))) fun x c d=>by kernel_rfl
def La:da:=⟨[(false,(.cY 1)),(false,(.int .i64)),(false,(.int .u64)),(false,(.int .u64))],[(false,.bool),(false,(.int .i64))],[(1,R1)],[(2,R2)]⟩
def g.dV (a0:Nat) (a1:Int) (a2:Int) (a3:Int) (c0:T1) (d0:T2):(Option ((Bool×(Int×Unit))×(T2×Unit))):=(bd (g.aP a0 a1 c0 d0) (fun p0=>(br (az (ak p0.1.2.1 0)) (some ((false,(p0.1.2.1,())),(d0,()))) (br (az (ak p0.1.1 a2)) (some ((false,(p0.1.2.1,())),(d0,()))) (bd (g.aZ a0 a1 a3 c0 d0) (fun p1=>(some ((true,(p1.1.1,())),(p1.2.1,())))))))))
def aeg:Plain La:=fun x c d=>g.dV x.1 x.2.1 x.2.2.1 x.2.2.2.1 c.1 d.1
theorem L_:bj Tryz.prog 146 La aeg:=bD (ao CL (ao pE (aH))) fun x c d=>by kernel_rfl
def Tj:da:=⟨[(true,(.pair (.int .i64) (.pair (.int .i64) (.pair (.int .i64) (.int .i64))))),(false,(.cY 1)),(true,(.pair (.pair (.int .u8) (.pair (.int .u8) (.pair (.int .u8) (.pair (.int .u8) (.pair (.int .i64) (.pair (.int .i64) (.int .i64))))))) (.pair (.int .i64) (.pair (.int .i64) (.pair (.int .u64) (.pair (.int .u64) (.pair (.aF (.pair (.int .i64) .bool)) (.pair (.int .u64) (.pair (.int .u64) (.pair (.int .i64) (.pair (.int .i64) (.pair (.aF (.int .i64)) (.pair (.int .i64) (.pair (.aF (.int .i64)) (.pair (.int .i64) (.pair .bool (.pair .bool (.pair .bool (.pair (.int .i64) (.pair (.int .i64) (.aF (.int .i64))))))))))))))))))))))],[(true,(.pair (.pair (.int .u8) (.pair (.int .u8) (.pair (.int .u8) (.pair (.int .u8) (.pair (.int .i64) (.pair (.int .i64) (.int .i64))))))) (.pair (.int .i64) (.pair (.int .i64) (.pair (.int .u64) (.pair (.int .u64) (.pair (.aF (.pair (.int .i64) .bool)) (.pair (.int .u64) (.pair (.int .u64) (.pair (.int .i64) (.pair (.int .i64) (.pair (.aF (.int .i64)) (.pair (.int .i64) (.pair (.aF (.int .i64)) (.pair (.int .i64) (.pair .bool (.pair .bool (.pair .bool (.pair (.int .i64) (.pair (.int .i64) (.aF (.int .i64)))))))))))))))))))))),(false,(.int .i64))],[(1,R1)],[(2,R2)]⟩
def g.jq (a0:U4) (a1:Nat) (a2:U1) (c0:T1) (d0:T2):(Option ((U1×(Int×Unit))×(T2×Unit))):=(bd (g.db a0 0 a2.1.2.2.2.2.1) (fun p0=>(br (ak a2.2.1 13) (jn (fun (k1:U0→_)=>(br a2.2.2.2.2.2.2.2.2.2.2.2.2.2.2.2.1 (some ((((0,(0,(0,(0,(0,(0,0)))))),(0,(0,(0,(0,([],(0,(0,(0,(0,([],(0,([],(0,(false,(false,(false,(0,(0,[]))))))))))))))))))),(1,())),(d0,()))) (k1 ((),((),((),(((0,(0,(0,(0,(0,(0,(0,(0,(0,(0,(0,([],(0,(0,(0,(0,([],(0,([],(0,(false,(false,(false,(0,(0,([],())))))))))))))))))))))))))),()),()))))))) (fun (s2:U0)=>(bd (g.aP a1 p0.1.1 c0 d0) (fun p3=>(bd (g.dU p3.1.1) (fun p4=>(bd (g.kf p4.1.1 a2.2.2.1) (fun p5=>(br (ak p5.1.2.1 10) (some ((a2,(0,())),(d0,()))) (br (ak p5.1.2.1 0) (bd (g.gY p5.1.1) (fun p6=>(some (((a2.1,(14,(a2.2.2.1,(a2.2.2.2.1,(a2.2.2.2.2.1,(a2.2.2.2.2.2.1,(p3.1.1,(p6.1.1,a2.2.2.2.2.2.2.2.2)))))))),(0,())),(d0,()))))) (bd (g.a_ a2 p5.1.2.1 0) (fun p7=>(some ((p7.1.1,(0,())),(d0,()))))))))))))))) (br (ak a2.2.1 14) (jn (fun (k8:U0→_)=>(br a2.2.2.2.2.2.2.2.2.2.2.2.2.2.2.2.1 (some ((((0,(0,(0,(0,(0,(0,0)))))),(0,(0,(0,(0,([],(0,(0,(0,(0,([],(0,([],(0,(false,(false,(false,(0,(0,[]))))))))))))))))))),(1,())),(d0,()))) (k8 ((),((),((),(((0,(0,(0,(0,(0,(0,(0,(0,(0,(0,(0,([],(0,(0,(0,(0,([],(0,([],(0,(false,(false,(false,(0,(0,([],())))))))))))))))))))))))))),()),()))))))) (fun (s9:U0)=>(bd (g.dV a1 p0.1.1 a2.2.2.2.2.2.2.1 a2.2.2.2.2.2.2.2.1 c0 d0) (fun gI=>(br gI.1.1 (bd (g.a_ a2 0 0) (fun kV=>(some ((kV.1.1,(0,())),(gI.2.1,()))))) (some (((a2.1,(13,(a2.2.2.1,(a2.2.2.2.1,(a2.2.2.2.2.1,(a2.2.2.2.2.2.1,(0,(0,a2.2.2.2.2.2.2.2.2)))))))),(0,())),(gI.2.1,())))))))) (jn (fun (UH:U0→_)=>(br a2.2.2.2.2.2.2.2.2.2.2.2.2.2.2.2.1 (some ((((0,(0,(0,(0,(0,(0,0)))))),(0,(0,(0,(0,([],(0,(0,(0,(0,([],(0,([],(0,(false,(false,(false,(0,(0,[]))))))))))))))))))),(1,())),(d0,()))) (some ((((0,(0,(0,(0,(0,(0,0)))))),(0,(0,(0,(0,([],(0,(0,(0,(0,([],(0,([],(0,(false,(false,(false,(0,(0,[]))))))))))))))))))),(1,())),(d0,()))))) (fun (s13:U0)=>none))))))
def F63:Plain Tj:=fun x c d=>g.jq x.1 x.2.1 x.2.2.1 c.1 d.1
theorem ac9:bj Tryz.prog 63 Tj F63:=bD (ao CM (ao N6 (ao zh (ao pE (ao Gf (ao XS (ao L_ (aH)))))))) fun x c d=>by kernel_rfl
def KO:da:=⟨[(false,(.int .u64)),(false,(.int .u64))],[(true,(.pair (.int .i64) (.pair (.int .i64) (.pair (.int .i64) (.pair .bool (.pair (.int .i64) (.int .i64))))))),(false,(.int .i64))],[],[]⟩
def g.kN (a0:Int) (a1:Int):(Option (((Int×(Int×(Int×(Bool×(Int×Int)))))×(Int×Unit))×Unit)):=(bd (g.kb ((cS .i64 (bits .and .u64 a0 4294967295)),((cS .i64 (bits .and .u64 (j0 .u64 a0 32) 255)),((cS .i64 (bits .and .u64 (j0 .u64 a0 40) 255)),((ak (cS .i64 (bits .and .u64 (j0 .u64 a0 48) 255)) 1),((cS .i64 (bits .and .u64 (j0 .u64 a1 0) 255)),(cS .i64 (j0 .u64 a1 8)))))))) (fun p0=>(br (az (ak p0.1.2.2.1 0)) (some (((0,(0,(0,(false,(0,0))))),(18,())),())) (br (az (ak p0.1.1 a0)) (some (((0,(0,(0,(false,(0,0))))),(18,())),())) (br (az (ak p0.1.2.1 a1)) (some (((0,(0,(0,(false,(0,0))))),(18,())),())) (some ((((cS .i64 (bits .and .u64 a0 4294967295)),((cS .i64 (bits .and .u64 (j0 .u64 a0 32) 255)),((cS .i64 (bits .and .u64 (j0 .u64 a0 40) 255)),((ak (cS .i64 (bits .and .u64 (j0 .u64 a0 48) 255)) 1),((cS .i64 (bits .and .u64 (j0 .u64 a1 0) 255)),(cS .i64 (j0 .u64 a1 8))))))),(0,())),())))))))
def adU:Plain KO:=fun x c d=>g.kN x.1 x.2.1
theorem Xz:bj Tryz.prog 236 KO adU:=bD (ao Ge (aH)) fun x c d=>by kernel_rfl
def K0:da:=⟨[(false,(.cY 1)),(false,(.int .i64))],[(true,(.pair (.int .i64) (.pair (.int .i64) (.pair (.int .i64) (.pair .bool (.pair (.int .i64) (.int .i64))))))),(false,(.int .i64))],[(1,R1),(2,R2)],[]⟩
def g.iH (a0:Nat) (a1:Int) (c0:T1) (c1:T2):(Option (((Int×(Int×(Int×(Bool×(Int×Int)))))×(Int×Unit))×Unit)):=(bd (g.aP a0 a1 c0 c1) (fun p0=>(br (az (ak p0.1.2.1 0)) (some (((0,(0,(0,(false,(0,0))))),(18,())),())) (bd (g.aP a0 (ae .i64 a1 8) c0 c1) (fun p1=>(br (az (ak p1.1.2.1 0)) (some (((0,(0,(0,(false,(0,0))))),(18,())),())) (bd (g.kN p0.1.1 p1.1.1) (fun p2=>(some ((p2.1.1,(p2.1.2.1,())),()))))))))))
def ad7:Plain K0:=fun x c d=>g.iH x.1 x.2.1 c.1 c.2.1
theorem AZ:bj Tryz.prog 209 K0 ad7:=bD (ao pE (ao Xz (aH))) fun x c d=>by kernel_rfl
def K_:da:=⟨[(false,(.cY 1)),(false,(.int .i64)),(false,(.int .i64))],[(false,(.int .i64)),(false,(.int .i64))],[(1,R1),(2,R2)],[]⟩
def g.kj (a0:Nat) (a1:Int) (a2:Int) (c0:T1) (c1:T2):(Option (ja×Unit)):=(bd (g.iH a0 a1 c0 c1) (fun p0=>(jn (fun (k1:(Unit×U2)→_)=>(br (az (ak p0.1.2.1 0)) (some ((0,(p0.1.2.1,())),())) (br (aQ a2 0) (some ((0,(21,())),())) (br (cP p0.1.1.2.1 a2) (some ((0,(21,())),())) (k1 ((),((),((),((),()))))))))) (fun (s2:(Unit×U2))=>(some (((ae .i64 (ae .i64 a1 16) (cm .i64 8 a2)),(0,())),()))))))
def aef:Plain K_:=fun x c d=>g.kj x.1 x.2.1 x.2.2.1 c.1 c.2.1
theorem L9:bj Tryz.prog 160 K_ aef:=bD (ao AZ (aH)) fun x c d=>by kernel_rfl
def KP:da:=⟨[(true,(.pair (.int .i64) (.pair (.int .i64) (.pair (.int .i64) (.int .i64))))),(false,(.int .i64))],[(false,(.int .i64))],[],[]⟩
def g.qj (a0:U4) (a1:Int):pP:=(bd (g.fM a0) (fun p0=>(br (az p0.1.1) (some ((1,()),())) (br (az (ak a0.1 a1)) (some ((11,()),())) (some ((0,()),()))))))
def adW:Plain KP:=fun x c d=>g.qj x.1 x.2.1
theorem Gd:bj Tryz.prog 235 KP adW:=bD (ao A0 (aH)) fun x c d=>by kernel_rfl
def K2:da:=⟨[(true,(.pair (.int .i64) (.pair (.int .i64) (.pair (.int .i64) (.int .i64)))))],[(true,(.pair (.int .i64) (.pair (.int .i64) (.pair (.int .i64) (.int .i64))))),(false,(.int .i64))],[],[]⟩
def g.ny (a0:U4):(Option ((U4×(Int×Unit))×Unit)):=(bd (g.qj a0 2) (fun p0=>(br (az (ak p0.1.1 0)) (some (((0,(0,(0,0))),(p0.1.1,())),())) (br (ak (aE .i64 a0.2.1 1) 0) (some (((3,((aE .i64 a0.2.1 1),a0.2.2)),(0,())),())) (some (((a0.1,((aE .i64 a0.2.1 1),a0.2.2)),(0,())),()))))))
def ad8:Plain K2:=fun x c d=>g.ny x.1
theorem XJ:bj Tryz.prog 206 K2 ad8:=bD (ao Gd (aH)) fun x c d=>by kernel_rfl
def KZ:da:=⟨[(false,(.je 9 1)),(false,(.int .i64))],[(false,(.aF (.pair (.int .u8) (.pair (.int .i64) (.int .i64)))))],[(9,R9)],[]⟩
def g.mX (a0:(Option Nat)) (a1:Int) (c0:T9):(Option ((lI×Unit)×Unit)):=(opt a0 (bd (g.ab a1 0 (-1)) (fun p0=>(br (az p0.1.1) (some (([],()),())) (opt a0 none (fun p1=>(bd (aT c0 p1) (fun p2=>(gd (bn a1) (gd (bu (nN a1) (len p2)) (bd (aT c0 p1) (fun p3=>(some (((nth [] p3 (nN a1)),()),()))))))))))))) (fun p4=>(bd (aT c0 p4) (fun p5=>(bd (g.ab a1 0 (aE .i64 (zN (len p5)) 1)) (fun p6=>(br (az p6.1.1) (some (([],()),())) (opt a0 none (fun p7=>(bd (aT c0 p7) (fun p8=>(gd (bn a1) (gd (bu (nN a1) (len p8)) (bd (aT c0 p7) (fun p9=>(some (((nth [] p9 (nN a1)),()),())))))))))))))))))
def ad6:Plain KZ:=fun x c d=>g.mX x.1 x.2.1 c.1
theorem XI:bj Tryz.prog 210 KZ ad6:=bD (ao mA (aH)) fun x c d=>by kernel_rfl
def KY:da:=⟨[(false,(.aF (.pair (.int .u8) (.pair (.int .i64) (.int .i64))))),(false,(.int .i64)),(false,(.aF (.int .u64)))],[(false,(.int .i64)),(false,(.aF (.int .u64))),(false,(.aF (.int .i64))),(false,.bool)],[],[]⟩
def g.mV (a0:lI) (a1:Int) (a2:(List Int)) (v0:iV→Hl) (k:(gE→Hl)) (s:gE):Hl:=(br (aQ s.1.1 (zN (len [(nth (0,(0,0)) a0 (nN a1)).2.1]))) (gd (bn s.1.1) (gd (bu (nN s.1.1) (len [(nth (0,(0,0)) a0 (nN a1)).2.1])) (bd (g.ab (nth 0 [(nth (0,(0,0)) a0 (nN a1)).2.1] (nN s.1.1)) 0 (aE .i64 (zN (len (cat [] a2))) 1)) (fun p0=>(br (az p0.1.1) (br (az (cP 0 s.1.1)) (gd (bn (nth (0,(0,0)) a0 (nN a1)).2.1) (gd (bu (nN (nth (0,(0,0)) a0 (nN a1)).2.1) (len (cat [] a2))) (v0 (((ak (nth 0 (cat [] a2) (nN (nth (0,(0,0)) a0 (nN a1)).2.1)) 0),()),((),((),((),()))))))) (v0 ((false,()),((),((),((),())))))) (k (((ae .i64 s.1.1 1),()),((),((),((),())))))))))) (gd (bn (nth (0,(0,0)) a0 (nN a1)).2.1) (gd (bu (nN (nth (0,(0,0)) a0 (nN a1)).2.1) (len (cat [] a2))) (v0 (((ak (nth 0 (cat [] a2) (nN (nth (0,(0,0)) a0 (nN a1)).2.1)) 0),()),((),((),((),()))))))))
def g.mU (a0:lI) (a1:Int) (a2:(List Int)) (v0:iV→Hl) (k:(gE→Hl)) (s:gE):Hl:=(br (aQ s.1.1 (zN (len [(nth (0,(0,0)) a0 (nN a1)).2.1,(nth (0,(0,0)) a0 (nN a1)).2.2]))) (gd (bn s.1.1) (gd (bu (nN s.1.1) (len [(nth (0,(0,0)) a0 (nN a1)).2.1,(nth (0,(0,0)) a0 (nN a1)).2.2])) (bd (g.ab (nth 0 [(nth (0,(0,0)) a0 (nN a1)).2.1,(nth (0,(0,0)) a0 (nN a1)).2.2] (nN s.1.1)) 0 (aE .i64 (zN (len (cat [] a2))) 1)) (fun p0=>(br (az p0.1.1) (v0 (((az (cP 0 s.1.1)),()),((),((),((),()))))) (k (((ae .i64 s.1.1 1),()),((),((),((),())))))))))) (v0 ((true,()),((),((),((),()))))))
def g.mT (a0:lI) (a1:Int) (a2:(List Int)) (v0:iV→Hl) (k:(gE→Hl)) (s:gE):Hl:=(br (aQ s.1.1 (zN (len [(nth (0,(0,0)) a0 (nN a1)).2.1]))) (gd (bn s.1.1) (gd (bu (nN s.1.1) (len [(nth (0,(0,0)) a0 (nN a1)).2.1])) (bd (g.ab (nth 0 [(nth (0,(0,0)) a0 (nN a1)).2.1] (nN s.1.1)) 0 (aE .i64 (zN (len (cat [] a2))) 1)) (fun p0=>(br (az p0.1.1) (v0 (((az (cP 0 s.1.1)),()),((),((),((),()))))) (k (((ae .i64 s.1.1 1),()),((),((),((),())))))))))) (v0 ((true,()),((),((),((),()))))))
def g.mW (a0:lI) (a1:Int) (a2:(List Int)):Hl:=(gd (bp (aK 0 (len a2)) 16777216) (bd (g.ab a1 0 (aE .i64 (zN (len a0)) 1)) (fun p0=>(br (az p0.1.1) (some ((a1,((cat [] a2),([],(false,())))),())) (gd (bn a1) (gd (bu (nN a1) (len a0)) (jn (fun (k1:(Unit×(Unit×(Unit×((((List Int)×((List Int)×(Bool×(Int×Unit))))×Unit)×Unit))))→_)=>(br (aQ (cS .i64 (nth (0,(0,0)) a0 (nN a1)).1) 5) (br (ak (nth (0,(0,0)) a0 (nN a1)).1 0) (gd (bp (len [(nth (0,(0,0)) a0 (nN a1)).2.1]) 16777216) (k1 ((),((),((),((((cat [] a2),([(nth (0,(0,0)) a0 (nN a1)).2.1],(false,(0,())))),()),())))))) (br (ak (nth (0,(0,0)) a0 (nN a1)).1 1) (jn (fun (k2:iV→_)=>(loop (g.mT a0 a1 a2 k2) ((0,()),((),((),((),())))))) (fun (s6:iV)=>(br s6.1.1 (gd (bn (nth (0,(0,0)) a0 (nN a1)).2.1) (gd (bu (nN (nth (0,(0,0)) a0 (nN a1)).2.1) (len (cat [] a2))) (k1 ((),((),((),((((upd (cat [] a2) (nN (nth (0,(0,0)) a0 (nN a1)).2.1) 0),([],(false,(0,())))),()),()))))))) (k1 ((),((),((),((((cat [] a2),([],(false,(0,())))),()),())))))))) (br (ak (nth (0,(0,0)) a0 (nN a1)).1 2) (jn (fun (k7:iV→_)=>(loop (g.mU a0 a1 a2 k7) ((0,()),((),((),((),())))))) (fun (aJ:iV)=>(br aJ.1.1 (gd (bn (nth (0,(0,0)) a0 (nN a1)).2.2) (gd (bu (nN (nth (0,(0,0)) a0 (nN a1)).2.2) (len (cat [] a2))) (gd (bn (nth (0,(0,0)) a0 (nN a1)).2.1) (gd (bu (nN (nth (0,(0,0)) a0 (nN a1)).2.1) (len (cat [] a2))) (k1 ((),((),((),((((upd (cat [] a2) (nN (nth (0,(0,0)) a0 (nN a1)).2.1) (nth 0 (cat [] a2) (nN (nth (0,(0,0)) a0 (nN a1)).2.2))),([],(false,(0,())))),()),()))))))))) (k1 ((),((),((),((((cat [] a2),([],(false,(0,())))),()),())))))))) (br (ak (nth (0,(0,0)) a0 (nN a1)).1 3) (jn (fun (UH:iV→_)=>(loop (g.mV a0 a1 a2 UH) ((0,()),((),((),((),())))))) (fun (cn:iV)=>(br cn.1.1 (k1 ((),((),((),((((cat [] a2),([],(false,((nth (0,(0,0)) a0 (nN a1)).2.2,())))),()),()))))) (k1 ((),((),((),((((cat [] a2),([],(false,(0,())))),()),())))))))) (br (ak (nth (0,(0,0)) a0 (nN a1)).1 4) (k1 ((),((),((),((((cat [] a2),([],(true,(0,())))),()),()))))) none))))) (k1 ((),((),((),((((cat [] a2),([],(false,(0,())))),()),()))))))) (fun (YB:(Unit×(Unit×(Unit×((((List Int)×((List Int)×(Bool×(Int×Unit))))×Unit)×Unit)))))=>(some (((ae .i64 (ae .i64 a1 1) YB.2.2.2.1.1.2.2.2.1),(YB.2.2.2.1.1.1,(YB.2.2.2.1.1.2.1,(YB.2.2.2.1.1.2.2.1,())))),()))))))))))
def ad5:Plain KY:=fun x c d=>g.mW x.1 x.2.1 x.2.2.1
theorem XH:bj Tryz.prog 211 KY ad5:=bD (ao mA (aH)) fun x c d=>by kernel_rfl
def KX:da:=⟨[(false,(.aF (.aF (.int .i64))))],[(false,(.aF (.int .i64)))],[],[]⟩
def g.ll (a0:(List (List Int))) (k:(((Int×Unit)×(mE×nB))→(Option (mE×Unit)))) (s:((Int×Unit)×(mE×nB))):(Option (mE×Unit)):=(br (aQ s.1.1 (zN (len a0))) (gd (bn s.1.1) (gd (bu (nN s.1.1) (len a0)) (gd (bp (aK (len s.2.1.1) (len (nth [] a0 (nN s.1.1)))) 16777216) (k (((ae .i64 s.1.1 1),()),(((cat s.2.1.1 (nth [] a0 (nN s.1.1))),()),((),((),())))))))) (some ((s.2.1.1,()),())))
def g.lj (a0:(List (List Int))) (k:((ja×U2)→(Option (mE×Unit)))) (s:(ja×U2)):(Option (mE×Unit)):=(br (aQ s.1.2.1 (zN (len a0))) (gd (bn s.1.2.1) (gd (bu (nN s.1.2.1) (len a0)) (br (aQ (ae .i64 s.1.1 (zN (len (nth [] a0 (nN s.1.2.1))))) 0) none (k (((ae .i64 s.1.1 (zN (len (nth [] a0 (nN s.1.2.1))))),((ae .i64 s.1.2.1 1),())),((),((),((),())))))))) (jn (fun (k0:(Unit×(mE×nB))→_)=>(gd (bn s.1.1) (gd (bp (nN s.1.1) 16777216) (k0 ((),(([],()),((),((),())))))))) (fun (s1:(Unit×(mE×nB)))=>(loop (g.ll a0) ((0,()),((s1.2.1.1,()),((),((),()))))))))
def g.jt (a0:(List (List Int))):(Option (mE×Unit)):=(loop (g.lj a0) ((0,(0,())),((),((),((),())))))
def ad4:Plain KX:=fun x c d=>g.jt x.1
theorem XG:bj Tryz.prog 212 KX ad4:=bD (N5 Cz (aH)) fun x c d=>by kernel_rfl
def KW:da:=⟨[(false,(.cY 1)),(false,(.int .i64))],[(false,(.int .i64))],[(1,R1)],[(2,R2)]⟩
def g.lM (a0:Nat) (a1:Int) (c0:T1) (d0:T2):(Option ((Int×Unit)×(T2×Unit))):=(bd (g.iH a0 a1 c0 d0) (fun p0=>(br (az (ak p0.1.2.1 0)) (some ((p0.1.2.1,()),(d0,()))) (bd (g.kb (p0.1.1.1,(p0.1.1.2.1,(p0.1.1.2.2.1,(true,p0.1.1.2.2.2.2))))) (fun p1=>(bd (g.aZ a0 a1 p1.1.1 c0 d0) (fun p2=>(some ((p2.1.1,()),(p2.2.1,()))))))))))
def ad3:Plain KW:=fun x c d=>g.lM x.1 x.2.1 c.1 d.1
theorem XF:bj Tryz.prog 214 KW ad3:=bD (ao CL (ao Ge (ao AZ (aH)))) fun x c d=>by kernel_rfl
def KV:da:=⟨[(true,(.pair (.int .i64) (.pair (.int .i64) (.pair (.int .i64) (.int .i64)))))],[(true,(.pair (.int .i64) (.pair (.int .i64) (.pair (.int .i64) (.int .i64))))),(false,(.int .i64))],[],[]⟩
def g.pD (a0:U4):(Option ((U4×(Int×Unit))×Unit)):=(bd (g.qj a0 3) (fun p0=>(br (az (ak p0.1.1 0)) (some (((0,(0,(0,0))),(p0.1.1,())),())) (some (((2,(1,a0.2.2)),(0,())),())))))
def ad1:Plain KV:=fun x c d=>g.pD x.1
theorem XE:bj Tryz.prog 216 KV ad1:=bD (ao Gd (aH)) fun x c d=>by kernel_rfl
def KU:da:=⟨[(true,(.pair (.int .i64) (.pair (.int .i64) (.pair (.int .i64) (.int .i64)))))],[(true,(.pair (.int .i64) (.pair (.int .i64) (.pair (.int .i64) (.int .i64))))),(false,(.int .i64))],[],[]⟩
def g.pC (a0:U4):(Option ((U4×(Int×Unit))×Unit)):=(bd (g.qj a0 3) (fun p0=>(br (az (ak p0.1.1 0)) (some (((0,(0,(0,0))),(p0.1.1,())),())) (some (((1,(0,((-1),(bits .and .i64 (ae .i64 a0.2.2.2 1) 16777215)))),(0,())),())))))
def ad0:Plain KU:=fun x c d=>g.pC x.1
theorem XD:bj Tryz.prog 219 KU ad0:=bD (ao Gd (aH)) fun x c d=>by kernel_rfl
def Ti:da:=⟨[(true,(.pair (.int .i64) (.pair (.int .i64) (.pair (.int .i64) (.int .i64))))),(false,(.je 9 1)),(false,(.cY 1)),(true,(.pair (.pair (.int .u8) (.pair (.int .u8) (.pair (.int .u8) (.pair (.int .u8) (.pair (.int .i64) (.pair (.int .i64) (.int .i64))))))) (.pair (.int .i64) (.pair (.int .i64) (.pair (.int .u64) (.pair (.int .u64) (.pair (.aF (.pair (.int .i64) .bool)) (.pair (.int .u64) (.pair (.int .u64) (.pair (.int .i64) (.pair (.int .i64) (.pair (.aF (.int .i64)) (.pair (.int .i64) (.pair (.aF (.int .i64)) (.pair (.int .i64) (.pair .bool (.pair .bool (.pair .bool (.pair (.int .i64) (.pair (.int .i64) (.aF (.int .i64))))))))))))))))))))))],[(true,(.pair (.pair (.int .u8) (.pair (.int .u8) (.pair (.int .u8) (.pair (.int .u8) (.pair (.int .i64) (.pair (.int .i64) (.int .i64))))))) (.pair (.int .i64) (.pair (.int .i64) (.pair (.int .u64) (.pair (.int .u64) (.pair (.aF (.pair (.int .i64) .bool)) (.pair (.int .u64) (.pair (.int .u64) (.pair (.int .i64) (.pair (.int .i64) (.pair (.aF (.int .i64)) (.pair (.int .i64) (.pair (.aF (.int .i64)) (.pair (.int .i64) (.pair .bool (.pair .bool (.pair .bool (.pair (.int .i64) (.pair (.int .i64) (.aF (.int .i64)))))))))))))))))))))),(false,(.int .i64))],[],[(1,R1),(2,R2),(9,R9)]⟩
def g.kW (a0:U4) (a1:(Option Nat)) (a2:Nat) (a3:U1) (d2:T9) (v0:((Int×Unit)×(((List Int)×mE)×(Unit×(Unit×(T1×Unit)))))) (v1:((Int×((List Int)×((List Int)×(Bool×Unit))))×Unit)) (v2:((lI×Unit)×Unit)) (k:(((Int×Unit)×(Unit×(Unit×(Unit×(T1×(T2×Unit))))))→(Option ((U1×(Int×Unit))×(T1×(T2×(T9×Unit))))))) (s:((Int×Unit)×(Unit×(Unit×(Unit×(T1×(T2×Unit))))))):(Option ((U1×(Int×Unit))×(T1×(T2×(T9×Unit))))):=(br (aQ s.1.1 (zN (len v0.2.1.1))) (gd (bn s.1.1) (gd (bu (nN s.1.1) (len v0.2.1.1)) (gd (bn s.1.1) (gd (bu (nN s.1.1) (len v1.1.2.1)) (bd (g.aZ a2 (nth 0 v0.2.1.1 (nN s.1.1)) (nth 0 v1.1.2.1 (nN s.1.1)) s.2.2.2.2.1 s.2.2.2.2.2.1) (fun p0=>(k (((ae .i64 s.1.1 1),()),((),((),((),(s.2.2.2.2.1,(p0.2.1,()))))))))))))) (jn (fun (k1:(Unit×(Unit×(Unit×(((Int×(Int×(Int×(Int×((Option Nat)×((Option Nat)×U6))))))×Unit)×Unit))))→_)=>(bd (g.jt [a3.2.2.2.2.2.2.2.2.2.2.2.2.1,v1.1.2.2.1]) (fun p2=>(br a3.2.2.2.2.2.2.2.2.2.2.2.2.2.2.1 (k1 ((),((),((),(((a0.1,(a0.2.1,(a0.2.2.1,(a0.2.2.2,(a1,((some a2),(a3.1.1,(a3.1.2.1,(a3.1.2.2.1,(a3.1.2.2.2.1,(a3.1.2.2.2.2.1,(a3.1.2.2.2.2.2.1,(a3.1.2.2.2.2.2.2,(a3.2.1,(a3.2.2.1,(a3.2.2.2.1,(a3.2.2.2.2.1,(a3.2.2.2.2.2.1,(a3.2.2.2.2.2.2.1,(a3.2.2.2.2.2.2.2.1,(a3.2.2.2.2.2.2.2.2.1,(a3.2.2.2.2.2.2.2.2.2.1,(a3.2.2.2.2.2.2.2.2.2.2.1,(v1.1.1,(p2.1.1,(a3.2.2.2.2.2.2.2.2.2.2.2.2.2.1,(true,(a3.2.2.2.2.2.2.2.2.2.2.2.2.2.2.2.1,(a3.2.2.2.2.2.2.2.2.2.2.2.2.2.2.2.2.1,(a3.2.2.2.2.2.2.2.2.2.2.2.2.2.2.2.2.2.1,(a3.2.2.2.2.2.2.2.2.2.2.2.2.2.2.2.2.2.2.1,(a3.2.2.2.2.2.2.2.2.2.2.2.2.2.2.2.2.2.2.2,())))))))))))))))))))))))))))))))),()),()))))) (k1 ((),((),((),(((a0.1,(a0.2.1,(a0.2.2.1,(a0.2.2.2,(a1,((some a2),(a3.1.1,(a3.1.2.1,(a3.1.2.2.1,(a3.1.2.2.2.1,(a3.1.2.2.2.2.1,(a3.1.2.2.2.2.2.1,(a3.1.2.2.2.2.2.2,(a3.2.1,(a3.2.2.1,(a3.2.2.2.1,(a3.2.2.2.2.1,(a3.2.2.2.2.2.1,(a3.2.2.2.2.2.2.1,(a3.2.2.2.2.2.2.2.1,(a3.2.2.2.2.2.2.2.2.1,(a3.2.2.2.2.2.2.2.2.2.1,(a3.2.2.2.2.2.2.2.2.2.2.1,(v1.1.1,(p2.1.1,(a3.2.2.2.2.2.2.2.2.2.2.2.2.2.1,(v1.1.2.2.2.1,(a3.2.2.2.2.2.2.2.2.2.2.2.2.2.2.2.1,(a3.2.2.2.2.2.2.2.2.2.2.2.2.2.2.2.2.1,(a3.2.2.2.2.2.2.2.2.2.2.2.2.2.2.2.2.2.1,(a3.2.2.2.2.2.2.2.2.2.2.2.2.2.2.2.2.2.2.1,(a3.2.2.2.2.2.2.2.2.2.2.2.2.2.2.2.2.2.2.2,())))))))))))))))))))))))))))))))),()),()))))))))) (fun (s3:(Unit×(Unit×(Unit×(((Int×(Int×(Int×(Int×((Option Nat)×((Option Nat)×U6))))))×Unit)×Unit)))))=>(br (cP (zN (len v2.1.1)) v1.1.1) (some ((((s3.2.2.2.1.1.2.2.2.2.2.2.1,(s3.2.2.2.1.1.2.2.2.2.2.2.2.1,(s3.2.2.2.1.1.2.2.2.2.2.2.2.2.1,(s3.2.2.2.1.1.2.2.2.2.2.2.2.2.2.1,(s3.2.2.2.1.1.2.2.2.2.2.2.2.2.2.2.1,(s3.2.2.2.1.1.2.2.2.2.2.2.2.2.2.2.2.1,s3.2.2.2.1.1.2.2.2.2.2.2.2.2.2.2.2.2.1)))))),(21,(s3.2.2.2.1.1.2.2.2.2.2.2.2.2.2.2.2.2.2.2.1,(s3.2.2.2.1.1.2.2.2.2.2.2.2.2.2.2.2.2.2.2.2.1,(s3.2.2.2.1.1.2.2.2.2.2.2.2.2.2.2.2.2.2.2.2.2.1,(s3.2.2.2.1.1.2.2.2.2.2.2.2.2.2.2.2.2.2.2.2.2.2.1,(s3.2.2.2.1.1.2.2.2.2.2.2.2.2.2.2.2.2.2.2.2.2.2.2.1,(s3.2.2.2.1.1.2.2.2.2.2.2.2.2.2.2.2.2.2.2.2.2.2.2.2.1,(s3.2.2.2.1.1.2.2.2.2.2.2.2.2.2.2.2.2.2.2.2.2.2.2.2.2.1,(s3.2.2.2.1.1.2.2.2.2.2.2.2.2.2.2.2.2.2.2.2.2.2.2.2.2.2.1,(s3.2.2.2.1.1.2.2.2.2.2.2.2.2.2.2.2.2.2.2.2.2.2.2.2.2.2.2.1,(s3.2.2.2.1.1.2.2.2.2.2.2.2.2.2.2.2.2.2.2.2.2.2.2.2.2.2.2.2.1,(s3.2.2.2.1.1.2.2.2.2.2.2.2.2.2.2.2.2.2.2.2.2.2.2.2.2.2.2.2.2.1,(s3.2.2.2.1.1.2.2.2.2.2.2.2.2.2.2.2.2.2.2.2.2.2.2.2.2.2.2.2.2.2.1,(s3.2.2.2.1.1.2.2.2.2.2.2.2.2.2.2.2.2.2.2.2.2.2.2.2.2.2.2.2.2.2.2.1,(s3.2.2.2.1.1.2.2.2.2.2.2.2.2.2.2.2.2.2.2.2.2.2.2.2.2.2.2.2.2.2.2.2.1,(s3.2.2.2.1.1.2.2.2.2.2.2.2.2.2.2.2.2.2.2.2.2.2.2.2.2.2.2.2.2.2.2.2.2.1,(s3.2.2.2.1.1.2.2.2.2.2.2.2.2.2.2.2.2.2.2.2.2.2.2.2.2.2.2.2.2.2.2.2.2.2.1,(s3.2.2.2.1.1.2.2.2.2.2.2.2.2.2.2.2.2.2.2.2.2.2.2.2.2.2.2.2.2.2.2.2.2.2.2.1,s3.2.2.2.1.1.2.2.2.2.2.2.2.2.2.2.2.2.2.2.2.2.2.2.2.2.2.2.2.2.2.2.2.2.2.2.2.1))))))))))))))))))),(0,())),(s.2.2.2.2.1,(s.2.2.2.2.2.1,(d2,()))))) (some ((((s3.2.2.2.1.1.2.2.2.2.2.2.1,(s3.2.2.2.1.1.2.2.2.2.2.2.2.1,(s3.2.2.2.1.1.2.2.2.2.2.2.2.2.1,(s3.2.2.2.1.1.2.2.2.2.2.2.2.2.2.1,(s3.2.2.2.1.1.2.2.2.2.2.2.2.2.2.2.1,(s3.2.2.2.1.1.2.2.2.2.2.2.2.2.2.2.2.1,s3.2.2.2.1.1.2.2.2.2.2.2.2.2.2.2.2.2.1)))))),(s3.2.2.2.1.1.2.2.2.2.2.2.2.2.2.2.2.2.2.1,(s3.2.2.2.1.1.2.2.2.2.2.2.2.2.2.2.2.2.2.2.1,(s3.2.2.2.1.1.2.2.2.2.2.2.2.2.2.2.2.2.2.2.2.1,(s3.2.2.2.1.1.2.2.2.2.2.2.2.2.2.2.2.2.2.2.2.2.1,(s3.2.2.2.1.1.2.2.2.2.2.2.2.2.2.2.2.2.2.2.2.2.2.1,(s3.2.2.2.1.1.2.2.2.2.2.2.2.2.2.2.2.2.2.2.2.2.2.2.1,(s3.2.2.2.1.1.2.2.2.2.2.2.2.2.2.2.2.2.2.2.2.2.2.2.2.1,(s3.2.2.2.1.1.2.2.2.2.2.2.2.2.2.2.2.2.2.2.2.2.2.2.2.2.1,(s3.2.2.2.1.1.2.2.2.2.2.2.2.2.2.2.2.2.2.2.2.2.2.2.2.2.2.1,(s3.2.2.2.1.1.2.2.2.2.2.2.2.2.2.2.2.2.2.2.2.2.2.2.2.2.2.2.1,(s3.2.2.2.1.1.2.2.2.2.2.2.2.2.2.2.2.2.2.2.2.2.2.2.2.2.2.2.2.1,(s3.2.2.2.1.1.2.2.2.2.2.2.2.2.2.2.2.2.2.2.2.2.2.2.2.2.2.2.2.2.1,(s3.2.2.2.1.1.2.2.2.2.2.2.2.2.2.2.2.2.2.2.2.2.2.2.2.2.2.2.2.2.2.1,(s3.2.2.2.1.1.2.2.2.2.2.2.2.2.2.2.2.2.2.2.2.2.2.2.2.2.2.2.2.2.2.2.1,(s3.2.2.2.1.1.2.2.2.2.2.2.2.2.2.2.2.2.2.2.2.2.2.2.2.2.2.2.2.2.2.2.2.1,(s3.2.2.2.1.1.2.2.2.2.2.2.2.2.2.2.2.2.2.2.2.2.2.2.2.2.2.2.2.2.2.2.2.2.1,(s3.2.2.2.1.1.2.2.2.2.2.2.2.2.2.2.2.2.2.2.2.2.2.2.2.2.2.2.2.2.2.2.2.2.2.1,(s3.2.2.2.1.1.2.2.2.2.2.2.2.2.2.2.2.2.2.2.2.2.2.2.2.2.2.2.2.2.2.2.2.2.2.2.1,s3.2.2.2.1.1.2.2.2.2.2.2.2.2.2.2.2.2.2.2.2.2.2.2.2.2.2.2.2.2.2.2.2.2.2.2.2.1))))))))))))))))))),(0,())),(s.2.2.2.2.1,(s.2.2.2.2.2.1,(d2,())))))))))
def g.nV (a0:U4) (a1:(Option Nat)) (a2:Nat) (a3:U1) (d1:T2) (d2:T9) (v0:(((Int×(Int×(Int×(Bool×(Int×Int)))))×(Int×Unit))×Unit)) (k:(((Int×Unit)×(((List Int)×mE)×(Unit×(Unit×(T1×Unit)))))→(Option ((U1×(Int×Unit))×(T1×(T2×(T9×Unit))))))) (s:((Int×Unit)×(((List Int)×mE)×(Unit×(Unit×(T1×Unit)))))):(Option ((U1×(Int×Unit))×(T1×(T2×(T9×Unit))))):=(br (aQ s.1.1 (zN (len (rep (α:=Int) (nN v0.1.1.2.1) 0)))) (bd (g.kj a2 (nth 0 a3.2.2.2.2.2.2.2.2.2.2.1 (nN (aE .i64 (zN (len a3.2.2.2.2.2.2.2.2.2.2.1)) 1))) s.1.1 s.2.2.2.2.1 d1) (fun p0=>(gd (bn s.1.1) (gd (bu (nN s.1.1) (len s.2.1.1)) (gd (bn s.1.1) (gd (bu (nN s.1.1) (len (upd s.2.1.1 (nN s.1.1) p0.1.1))) (bd (g.aP a2 (nth 0 (upd s.2.1.1 (nN s.1.1) p0.1.1) (nN s.1.1)) s.2.2.2.2.1 d1) (fun p1=>(gd (bn s.1.1) (gd (bu (nN s.1.1) (len s.2.1.2.1)) (k (((ae .i64 s.1.1 1),()),(((upd s.2.1.1 (nN s.1.1) p0.1.1),((upd s.2.1.2.1 (nN s.1.1) p1.1.1),())),((),((),(s.2.2.2.2.1,())))))))))))))))) (opt a1 (bd (g.mX none v0.1.1.2.2.1 d2) (fun p2=>(bd (g.mW p2.1.1 a3.2.2.2.2.2.2.2.2.2.2.2.1 s.2.1.2.1) (fun p3=>(loop (g.kW a0 a1 a2 a3 d2 s p3 p2) ((0,()),((),((),((),(s.2.2.2.2.1,(d1,()))))))))))) (fun p4=>(bd (g.mX (some p4) v0.1.1.2.2.1 d2) (fun p5=>(bd (g.mW p5.1.1 a3.2.2.2.2.2.2.2.2.2.2.2.1 s.2.1.2.1) (fun p6=>(loop (g.kW a0 a1 a2 a3 d2 s p6 p5) ((0,()),((),((),((),(s.2.2.2.2.1,(d1,()))))))))))))))
def g.iy (a0:U4) (a1:(Option Nat)) (a2:Nat) (a3:U1) (d0:T1) (d1:T2) (d2:T9):(Option ((U1×(Int×Unit))×(T1×(T2×(T9×Unit))))):=(br (ak a3.2.1 15) (jn (fun (k0:U0→_)=>(br a3.2.2.2.2.2.2.2.2.2.2.2.2.2.2.2.1 (some ((((0,(0,(0,(0,(0,(0,0)))))),(0,(0,(0,(0,([],(0,(0,(0,(0,([],(0,([],(0,(false,(false,(false,(0,(0,[]))))))))))))))))))),(1,())),(d0,(d1,(d2,()))))) (k0 ((),((),((),(((0,(0,(0,(0,(0,(0,(0,(0,(0,(0,(0,([],(0,(0,(0,(0,([],(0,([],(0,(false,(false,(false,(0,(0,([],())))))))))))))))))))))))))),()),()))))))) (fun (s1:U0)=>(bd (g.db a0 0 a3.2.2.1) (fun p2=>(bd (g.aP a2 p2.1.1 d0 d1) (fun p3=>(bd (g.dU p3.1.1) (fun p4=>(bd (g.ny p4.1.1) (fun p5=>(bd (g.gY p5.1.1) (fun p6=>(some (((a3.1,(16,(a3.2.2.1,(a3.2.2.2.1,(a3.2.2.2.2.1,(a3.2.2.2.2.2.1,(p3.1.1,(p6.1.1,a3.2.2.2.2.2.2.2.2)))))))),(0,())),(d0,(d1,(d2,()))))))))))))))))) (br (ak a3.2.1 16) (jn (fun (k7:U0→_)=>(br a3.2.2.2.2.2.2.2.2.2.2.2.2.2.2.2.1 (some ((((0,(0,(0,(0,(0,(0,0)))))),(0,(0,(0,(0,([],(0,(0,(0,(0,([],(0,([],(0,(false,(false,(false,(0,(0,[]))))))))))))))))))),(1,())),(d0,(d1,(d2,()))))) (k7 ((),((),((),(((0,(0,(0,(0,(0,(0,(0,(0,(0,(0,(0,([],(0,(0,(0,(0,([],(0,([],(0,(false,(false,(false,(0,(0,([],())))))))))))))))))))))))))),()),()))))))) (fun (s8:U0)=>(bd (g.db a0 0 a3.2.2.1) (fun p9=>(bd (g.dV a2 p9.1.1 a3.2.2.2.2.2.2.1 a3.2.2.2.2.2.2.2.1 d0 d1) (fun gI=>(bd (g.dU a3.2.2.2.2.2.2.2.1) (fun kV=>(br (az gI.1.1) (some (((a3.1,(15,(a3.2.2.1,(a3.2.2.2.1,(a3.2.2.2.2.1,(a3.2.2.2.2.2.1,(0,(0,a3.2.2.2.2.2.2.2.2)))))))),(0,())),(d0,(gI.2.1,(d2,()))))) (br (ak kV.1.1.1 3) (some (((a3.1,(17,a3.2.2)),(0,())),(d0,(gI.2.1,(d2,()))))) (bd (g.a_ a3 0 0) (fun cA=>(some ((cA.1.1,(0,())),(d0,(gI.2.1,(d2,()))))))))))))))))) (br (ak a3.2.1 17) (jn (fun (UG:U0→_)=>(br a3.2.2.2.2.2.2.2.2.2.2.2.2.2.2.2.1 (some ((((0,(0,(0,(0,(0,(0,0)))))),(0,(0,(0,(0,([],(0,(0,(0,(0,([],(0,([],(0,(false,(false,(false,(0,(0,[]))))))))))))))))))),(1,())),(d0,(d1,(d2,()))))) (UG ((),((),((),(((0,(0,(0,(0,(0,(0,(0,(0,(0,(0,(0,([],(0,(0,(0,(0,([],(0,([],(0,(false,(false,(false,(0,(0,([],())))))))))))))))))))))))))),()),()))))))) (fun (s14:U0)=>(bd (g.db a0 1 a3.2.2.1) (fun dI=>(bd (g.aP a2 dI.1.1 d0 d1) (fun eZ=>(some (((a3.1,(18,(a3.2.2.1,(a3.2.2.2.1,(a3.2.2.2.2.1,(a3.2.2.2.2.2.1,(eZ.1.1,(a3.2.2.2.2.2.2.2.1,((cS .i64 eZ.1.1),a3.2.2.2.2.2.2.2.2.2))))))))),(0,())),(d0,(d1,(d2,()))))))))))) (br (ak a3.2.1 18) (jn (fun (Iy:U0→_)=>(br a3.2.2.2.2.2.2.2.2.2.2.2.2.2.2.2.1 (some ((((0,(0,(0,(0,(0,(0,0)))))),(0,(0,(0,(0,([],(0,(0,(0,(0,([],(0,([],(0,(false,(false,(false,(0,(0,[]))))))))))))))))))),(1,())),(d0,(d1,(d2,()))))) (Iy ((),((),((),(((0,(0,(0,(0,(0,(0,(0,(0,(0,(0,(0,([],(0,(0,(0,(0,([],(0,([],(0,(false,(false,(false,(0,(0,([],())))))))))))))))))))))))))),()),()))))))) (fun (s18:U0)=>(bd (g.db a0 3 a3.2.2.1) (fun kF=>(bd (g.aP a2 kF.1.1 d0 d1) (fun dT=>(br (aQ a3.2.2.2.2.2.2.2.2.1 (ae .i64 a3.2.2.2.2.2.2.2.2.1 (cS .i64 dT.1.1))) (some (((a3.1,(19,(a3.2.2.1,(a3.2.2.2.1,(a3.2.2.2.2.1,(a3.2.2.2.2.2.1,(a3.2.2.2.2.2.2.1,(a3.2.2.2.2.2.2.2.1,(a3.2.2.2.2.2.2.2.2.1,((ae .i64 a3.2.2.2.2.2.2.2.2.1 (cS .i64 dT.1.1)),a3.2.2.2.2.2.2.2.2.2.2)))))))))),(0,())),(d0,(d1,(d2,()))))) (br (aQ 0 (zN (len a3.2.2.2.2.2.2.2.2.2.2.1))) (some (((a3.1,(20,(a3.2.2.1,(a3.2.2.2.1,(a3.2.2.2.2.1,(a3.2.2.2.2.2.1,(a3.2.2.2.2.2.2.1,(a3.2.2.2.2.2.2.2.1,(a3.2.2.2.2.2.2.2.2.1,((ae .i64 a3.2.2.2.2.2.2.2.2.1 (cS .i64 dT.1.1)),a3.2.2.2.2.2.2.2.2.2.2)))))))))),(0,())),(d0,(d1,(d2,()))))) (br a3.2.2.2.2.2.2.2.2.2.2.2.2.2.2.1 (some (((a3.1,(22,(a3.2.2.1,(a3.2.2.2.1,(a3.2.2.2.2.1,(a3.2.2.2.2.2.1,(a3.2.2.2.2.2.2.1,(a3.2.2.2.2.2.2.2.1,(a3.2.2.2.2.2.2.2.2.1,((ae .i64 a3.2.2.2.2.2.2.2.2.1 (cS .i64 dT.1.1)),a3.2.2.2.2.2.2.2.2.2.2)))))))))),(0,())),(d0,(d1,(d2,()))))) (some (((a3.1,(23,(a3.2.2.1,(a3.2.2.2.1,(a3.2.2.2.2.1,(a3.2.2.2.2.2.1,(a3.2.2.2.2.2.2.1,(a3.2.2.2.2.2.2.2.1,(a3.2.2.2.2.2.2.2.2.1,((ae .i64 a3.2.2.2.2.2.2.2.2.1 (cS .i64 dT.1.1)),a3.2.2.2.2.2.2.2.2.2.2)))))))))),(0,())),(d0,(d1,(d2,())))))))))))))) (br (ak a3.2.1 19) (jn (fun (YM:U0→_)=>(br a3.2.2.2.2.2.2.2.2.2.2.2.2.2.2.2.1 (some ((((0,(0,(0,(0,(0,(0,0)))))),(0,(0,(0,(0,([],(0,(0,(0,(0,([],(0,([],(0,(false,(false,(false,(0,(0,[]))))))))))))))))))),(1,())),(d0,(d1,(d2,()))))) (YM ((),((),((),(((0,(0,(0,(0,(0,(0,(0,(0,(0,(0,(0,([],(0,(0,(0,(0,([],(0,([],(0,(false,(false,(false,(0,(0,([],())))))))))))))))))))))))))),()),()))))))) (fun (oF:U0)=>(bd (g.iH a2 a3.2.2.2.2.2.2.2.2.1 d0 d1) (fun fk=>(br (az fk.1.1.2.2.2.1) (opt a1 (bd (g.mX none fk.1.1.2.2.1 d2) (fun jX=>(br (aQ 0 (zN (len jX.1.1))) (gd (bp (len a3.2.2.2.2.2.2.2.2.2.2.1) 16777216) (gd (bp (aK (len a3.2.2.2.2.2.2.2.2.2.2.1) (len [a3.2.2.2.2.2.2.2.2.1])) 16777216) (br (aQ (ae .i64 a3.2.2.2.2.2.2.2.2.1 (cm .i64 fk.1.1.1 8)) a3.2.2.2.2.2.2.2.2.2.1) (some (((a3.1,(19,(a3.2.2.1,(a3.2.2.2.1,(a3.2.2.2.2.1,(a3.2.2.2.2.2.1,(a3.2.2.2.2.2.2.1,(a3.2.2.2.2.2.2.2.1,((ae .i64 a3.2.2.2.2.2.2.2.2.1 (cm .i64 fk.1.1.1 8)),(a3.2.2.2.2.2.2.2.2.2.1,((cat a3.2.2.2.2.2.2.2.2.2.2.1 [a3.2.2.2.2.2.2.2.2.1]),a3.2.2.2.2.2.2.2.2.2.2.2))))))))))),(0,())),(d0,(d1,(d2,()))))) (br (aQ 0 (zN (len (cat a3.2.2.2.2.2.2.2.2.2.2.1 [a3.2.2.2.2.2.2.2.2.1])))) (some (((a3.1,(20,(a3.2.2.1,(a3.2.2.2.1,(a3.2.2.2.2.1,(a3.2.2.2.2.2.1,(a3.2.2.2.2.2.2.1,(a3.2.2.2.2.2.2.2.1,((ae .i64 a3.2.2.2.2.2.2.2.2.1 (cm .i64 fk.1.1.1 8)),(a3.2.2.2.2.2.2.2.2.2.1,((cat a3.2.2.2.2.2.2.2.2.2.2.1 [a3.2.2.2.2.2.2.2.2.1]),a3.2.2.2.2.2.2.2.2.2.2.2))))))))))),(0,())),(d0,(d1,(d2,()))))) (br a3.2.2.2.2.2.2.2.2.2.2.2.2.2.2.1 (some (((a3.1,(22,(a3.2.2.1,(a3.2.2.2.1,(a3.2.2.2.2.1,(a3.2.2.2.2.2.1,(a3.2.2.2.2.2.2.1,(a3.2.2.2.2.2.2.2.1,((ae .i64 a3.2.2.2.2.2.2.2.2.1 (cm .i64 fk.1.1.1 8)),(a3.2.2.2.2.2.2.2.2.2.1,((cat a3.2.2.2.2.2.2.2.2.2.2.1 [a3.2.2.2.2.2.2.2.2.1]),a3.2.2.2.2.2.2.2.2.2.2.2))))))))))),(0,())),(d0,(d1,(d2,()))))) (some (((a3.1,(23,(a3.2.2.1,(a3.2.2.2.1,(a3.2.2.2.2.1,(a3.2.2.2.2.2.1,(a3.2.2.2.2.2.2.1,(a3.2.2.2.2.2.2.2.1,((ae .i64 a3.2.2.2.2.2.2.2.2.1 (cm .i64 fk.1.1.1 8)),(a3.2.2.2.2.2.2.2.2.2.1,((cat a3.2.2.2.2.2.2.2.2.2.2.1 [a3.2.2.2.2.2.2.2.2.1]),a3.2.2.2.2.2.2.2.2.2.2.2))))))))))),(0,())),(d0,(d1,(d2,())))))))))) (br (aQ (ae .i64 a3.2.2.2.2.2.2.2.2.1 (cm .i64 fk.1.1.1 8)) a3.2.2.2.2.2.2.2.2.2.1) (some (((a3.1,(19,(a3.2.2.1,(a3.2.2.2.1,(a3.2.2.2.2.1,(a3.2.2.2.2.2.1,(a3.2.2.2.2.2.2.1,(a3.2.2.2.2.2.2.2.1,((ae .i64 a3.2.2.2.2.2.2.2.2.1 (cm .i64 fk.1.1.1 8)),a3.2.2.2.2.2.2.2.2.2))))))))),(0,())),(d0,(d1,(d2,()))))) (br (aQ 0 (zN (len a3.2.2.2.2.2.2.2.2.2.2.1))) (some (((a3.1,(20,(a3.2.2.1,(a3.2.2.2.1,(a3.2.2.2.2.1,(a3.2.2.2.2.2.1,(a3.2.2.2.2.2.2.1,(a3.2.2.2.2.2.2.2.1,((ae .i64 a3.2.2.2.2.2.2.2.2.1 (cm .i64 fk.1.1.1 8)),a3.2.2.2.2.2.2.2.2.2))))))))),(0,())),(d0,(d1,(d2,()))))) (br a3.2.2.2.2.2.2.2.2.2.2.2.2.2.2.1 (some (((a3.1,(22,(a3.2.2.1,(a3.2.2.2.1,(a3.2.2.2.2.1,(a3.2.2.2.2.2.1,(a3.2.2.2.2.2.2.1,(a3.2.2.2.2.2.2.2.1,((ae .i64 a3.2.2.2.2.2.2.2.2.1 (cm .i64 fk.1.1.1 8)),a3.2.2.2.2.2.2.2.2.2))))))))),(0,())),(d0,(d1,(d2,()))))) (some (((a3.1,(23,(a3.2.2.1,(a3.2.2.2.1,(a3.2.2.2.2.1,(a3.2.2.2.2.2.1,(a3.2.2.2.2.2.2.1,(a3.2.2.2.2.2.2.2.1,((ae .i64 a3.2.2.2.2.2.2.2.2.1 (cm .i64 fk.1.1.1 8)),a3.2.2.2.2.2.2.2.2.2))))))))),(0,())),(d0,(d1,(d2,()))))))))))) (fun fq=>(bd (g.mX (some fq) fk.1.1.2.2.1 d2) (fun eN=>(br (aQ 0 (zN (len eN.1.1))) (gd (bp (len a3.2.2.2.2.2.2.2.2.2.2.1) 16777216) (gd (bp (aK (len a3.2.2.2.2.2.2.2.2.2.2.1) (len [a3.2.2.2.2.2.2.2.2.1])) 16777216) (br (aQ (ae .i64 a3.2.2.2.2.2.2.2.2.1 (cm .i64 fk.1.1.1 8)) a3.2.2.2.2.2.2.2.2.2.1) (some (((a3.1,(19,(a3.2.2.1,(a3.2.2.2.1,(a3.2.2.2.2.1,(a3.2.2.2.2.2.1,(a3.2.2.2.2.2.2.1,(a3.2.2.2.2.2.2.2.1,((ae .i64 a3.2.2.2.2.2.2.2.2.1 (cm .i64 fk.1.1.1 8)),(a3.2.2.2.2.2.2.2.2.2.1,((cat a3.2.2.2.2.2.2.2.2.2.2.1 [a3.2.2.2.2.2.2.2.2.1]),a3.2.2.2.2.2.2.2.2.2.2.2))))))))))),(0,())),(d0,(d1,(d2,()))))) (br (aQ 0 (zN (len (cat a3.2.2.2.2.2.2.2.2.2.2.1 [a3.2.2.2.2.2.2.2.2.1])))) (some (((a3.1,(20,(a3.2.2.1,(a3.2.2.2.1,(a3.2.2.2.2.1,(a3.2.2.2.2.2.1,(a3.2.2.2.2.2.2.1,(a3.2.2.2.2.2.2.2.1,((ae .i64 a3.2.2.2.2.2.2.2.2.1 (cm .i64 fk.1.1.1 8)),(a3.2.2.2.2.2.2.2.2.2.1,((cat a3.2.2.2.2.2.2.2.2.2.2.1 [a3.2.2.2.2.2.2.2.2.1]),a3.2.2.2.2.2.2.2.2.2.2.2))))))))))),(0,())),(d0,(d1,(d2,()))))) (br a3.2.2.2.2.2.2.2.2.2.2.2.2.2.2.1 (some (((a3.1,(22,(a3.2.2.1,(a3.2.2.2.1,(a3.2.2.2.2.1,(a3.2.2.2.2.2.1,(a3.2.2.2.2.2.2.1,(a3.2.2.2.2.2.2.2.1,((ae .i64 a3.2.2.2.2.2.2.2.2.1 (cm .i64 fk.1.1.1 8)),(a3.2.2.2.2.2.2.2.2.2.1,((cat a3.2.2.2.2.2.2.2.2.2.2.1 [a3.2.2.2.2.2.2.2.2.1]),a3.2.2.2.2.2.2.2.2.2.2.2))))))))))),(0,())),(d0,(d1,(d2,()))))) (some (((a3.1,(23,(a3.2.2.1,(a3.2.2.2.1,(a3.2.2.2.2.1,(a3.2.2.2.2.2.1,(a3.2.2.2.2.2.2.1,(a3.2.2.2.2.2.2.2.1,((ae .i64 a3.2.2.2.2.2.2.2.2.1 (cm .i64 fk.1.1.1 8)),(a3.2.2.2.2.2.2.2.2.2.1,((cat a3.2.2.2.2.2.2.2.2.2.2.1 [a3.2.2.2.2.2.2.2.2.1]),a3.2.2.2.2.2.2.2.2.2.2.2))))))))))),(0,())),(d0,(d1,(d2,())))))))))) (br (aQ (ae .i64 a3.2.2.2.2.2.2.2.2.1 (cm .i64 fk.1.1.1 8)) a3.2.2.2.2.2.2.2.2.2.1) (some (((a3.1,(19,(a3.2.2.1,(a3.2.2.2.1,(a3.2.2.2.2.1,(a3.2.2.2.2.2.1,(a3.2.2.2.2.2.2.1,(a3.2.2.2.2.2.2.2.1,((ae .i64 a3.2.2.2.2.2.2.2.2.1 (cm .i64 fk.1.1.1 8)),a3.2.2.2.2.2.2.2.2.2))))))))),(0,())),(d0,(d1,(d2,()))))) (br (aQ 0 (zN (len a3.2.2.2.2.2.2.2.2.2.2.1))) (some (((a3.1,(20,(a3.2.2.1,(a3.2.2.2.1,(a3.2.2.2.2.1,(a3.2.2.2.2.2.1,(a3.2.2.2.2.2.2.1,(a3.2.2.2.2.2.2.2.1,((ae .i64 a3.2.2.2.2.2.2.2.2.1 (cm .i64 fk.1.1.1 8)),a3.2.2.2.2.2.2.2.2.2))))))))),(0,())),(d0,(d1,(d2,()))))) (br a3.2.2.2.2.2.2.2.2.2.2.2.2.2.2.1 (some (((a3.1,(22,(a3.2.2.1,(a3.2.2.2.1,(a3.2.2.2.2.1,(a3.2.2.2.2.2.1,(a3.2.2.2.2.2.2.1,(a3.2.2.2.2.2.2.2.1,((ae .i64 a3.2.2.2.2.2.2.2.2.1 (cm .i64 fk.1.1.1 8)),a3.2.2.2.2.2.2.2.2.2))))))))),(0,())),(d0,(d1,(d2,()))))) (some (((a3.1,(23,(a3.2.2.1,(a3.2.2.2.1,(a3.2.2.2.2.1,(a3.2.2.2.2.2.1,(a3.2.2.2.2.2.2.1,(a3.2.2.2.2.2.2.2.1,((ae .i64 a3.2.2.2.2.2.2.2.2.1 (cm .i64 fk.1.1.1 8)),a3.2.2.2.2.2.2.2.2.2))))))))),(0,())),(d0,(d1,(d2,()))))))))))))) (br (aQ (ae .i64 a3.2.2.2.2.2.2.2.2.1 (cm .i64 fk.1.1.1 8)) a3.2.2.2.2.2.2.2.2.2.1) (some (((a3.1,(19,(a3.2.2.1,(a3.2.2.2.1,(a3.2.2.2.2.1,(a3.2.2.2.2.2.1,(a3.2.2.2.2.2.2.1,(a3.2.2.2.2.2.2.2.1,((ae .i64 a3.2.2.2.2.2.2.2.2.1 (cm .i64 fk.1.1.1 8)),a3.2.2.2.2.2.2.2.2.2))))))))),(0,())),(d0,(d1,(d2,()))))) (br (aQ 0 (zN (len a3.2.2.2.2.2.2.2.2.2.2.1))) (some (((a3.1,(20,(a3.2.2.1,(a3.2.2.2.1,(a3.2.2.2.2.1,(a3.2.2.2.2.2.1,(a3.2.2.2.2.2.2.1,(a3.2.2.2.2.2.2.2.1,((ae .i64 a3.2.2.2.2.2.2.2.2.1 (cm .i64 fk.1.1.1 8)),a3.2.2.2.2.2.2.2.2.2))))))))),(0,())),(d0,(d1,(d2,()))))) (br a3.2.2.2.2.2.2.2.2.2.2.2.2.2.2.1 (some (((a3.1,(22,(a3.2.2.1,(a3.2.2.2.1,(a3.2.2.2.2.1,(a3.2.2.2.2.2.1,(a3.2.2.2.2.2.2.1,(a3.2.2.2.2.2.2.2.1,((ae .i64 a3.2.2.2.2.2.2.2.2.1 (cm .i64 fk.1.1.1 8)),a3.2.2.2.2.2.2.2.2.2))))))))),(0,())),(d0,(d1,(d2,()))))) (some (((a3.1,(23,(a3.2.2.1,(a3.2.2.2.1,(a3.2.2.2.2.1,(a3.2.2.2.2.2.1,(a3.2.2.2.2.2.2.1,(a3.2.2.2.2.2.2.2.1,((ae .i64 a3.2.2.2.2.2.2.2.2.1 (cm .i64 fk.1.1.1 8)),a3.2.2.2.2.2.2.2.2.2))))))))),(0,())),(d0,(d1,(d2,()))))))))))))) (br (ak a3.2.1 20) (jn (fun (k27:U0→_)=>(br a3.2.2.2.2.2.2.2.2.2.2.2.2.2.2.2.1 (some ((((0,(0,(0,(0,(0,(0,0)))))),(0,(0,(0,(0,([],(0,(0,(0,(0,([],(0,([],(0,(false,(false,(false,(0,(0,[]))))))))))))))))))),(1,())),(d0,(d1,(d2,()))))) (k27 ((),((),((),(((0,(0,(0,(0,(0,(0,(0,(0,(0,(0,(0,([],(0,(0,(0,(0,([],(0,([],(0,(false,(false,(false,(0,(0,([],())))))))))))))))))))))))))),()),()))))))) (fun (s28:U0)=>(gd (bn (aE .i64 (zN (len a3.2.2.2.2.2.2.2.2.2.2.1)) 1)) (gd (bu (nN (aE .i64 (zN (len a3.2.2.2.2.2.2.2.2.2.2.1)) 1)) (len a3.2.2.2.2.2.2.2.2.2.2.1)) (bd (g.iH a2 (nth 0 a3.2.2.2.2.2.2.2.2.2.2.1 (nN (aE .i64 (zN (len a3.2.2.2.2.2.2.2.2.2.2.1)) 1))) d0 d1) (fun jS=>(gd (bn jS.1.1.2.1) (gd (bp (nN jS.1.1.2.1) 16777216) (gd (bn jS.1.1.2.1) (gd (bp (nN jS.1.1.2.1) 16777216) (loop (g.nV a0 a1 a2 a3 d1 d2 jS) ((0,()),(((rep (α:=Int) (nN jS.1.1.2.1) 0),((rep (α:=Int) (nN jS.1.1.2.1) 0),())),((),((),(d0,())))))))))))))))) (br (ak a3.2.1 21) (jn (fun (uN:U0→_)=>(br a3.2.2.2.2.2.2.2.2.2.2.2.2.2.2.2.1 (some ((((0,(0,(0,(0,(0,(0,0)))))),(0,(0,(0,(0,([],(0,(0,(0,(0,([],(0,([],(0,(false,(false,(false,(0,(0,[]))))))))))))))))))),(1,())),(d0,(d1,(d2,()))))) (uN ((),((),((),(((0,(0,(0,(0,(0,(0,(0,(0,(0,(0,(0,([],(0,(0,(0,(0,([],(0,([],(0,(false,(false,(false,(0,(0,([],())))))))))))))))))))))))))),()),()))))))) (fun (s52:U0)=>(gd (bn (aE .i64 (zN (len a3.2.2.2.2.2.2.2.2.2.2.1)) 1)) (gd (bu (nN (aE .i64 (zN (len a3.2.2.2.2.2.2.2.2.2.2.1)) 1)) (len a3.2.2.2.2.2.2.2.2.2.2.1)) (bd (g.lM a2 (nth 0 a3.2.2.2.2.2.2.2.2.2.2.1 (nN (aE .i64 (zN (len a3.2.2.2.2.2.2.2.2.2.2.1)) 1))) d0 d1) (fun Em=>(gd (bn (aE .i64 (zN (len a3.2.2.2.2.2.2.2.2.2.2.1)) 1)) (gd (bp 0 (nN (aE .i64 (zN (len a3.2.2.2.2.2.2.2.2.2.2.1)) 1))) (gd (bp (nN (aE .i64 (zN (len a3.2.2.2.2.2.2.2.2.2.2.1)) 1)) (len a3.2.2.2.2.2.2.2.2.2.2.1)) (gd (bp (len (tk (ay (nN (aE .i64 (zN (len a3.2.2.2.2.2.2.2.2.2.2.1)) 1)) 0) (dr 0 a3.2.2.2.2.2.2.2.2.2.2.1))) 16777216) (br (aQ 0 (zN (len (tk (ay (nN (aE .i64 (zN (len a3.2.2.2.2.2.2.2.2.2.2.1)) 1)) 0) (dr 0 a3.2.2.2.2.2.2.2.2.2.2.1))))) (some (((a3.1,(20,(a3.2.2.1,(a3.2.2.2.1,(a3.2.2.2.2.1,(a3.2.2.2.2.2.1,(a3.2.2.2.2.2.2.1,(a3.2.2.2.2.2.2.2.1,(a3.2.2.2.2.2.2.2.2.1,(a3.2.2.2.2.2.2.2.2.2.1,((tk (ay (nN (aE .i64 (zN (len a3.2.2.2.2.2.2.2.2.2.2.1)) 1)) 0) (dr 0 a3.2.2.2.2.2.2.2.2.2.2.1)),(0,(a3.2.2.2.2.2.2.2.2.2.2.2.2.1,((ae .i64 a3.2.2.2.2.2.2.2.2.2.2.2.2.2.1 1),a3.2.2.2.2.2.2.2.2.2.2.2.2.2.2)))))))))))))),(0,())),(d0,(Em.2.1,(d2,()))))) (br a3.2.2.2.2.2.2.2.2.2.2.2.2.2.2.1 (some (((a3.1,(22,(a3.2.2.1,(a3.2.2.2.1,(a3.2.2.2.2.1,(a3.2.2.2.2.2.1,(a3.2.2.2.2.2.2.1,(a3.2.2.2.2.2.2.2.1,(a3.2.2.2.2.2.2.2.2.1,(a3.2.2.2.2.2.2.2.2.2.1,((tk (ay (nN (aE .i64 (zN (len a3.2.2.2.2.2.2.2.2.2.2.1)) 1)) 0) (dr 0 a3.2.2.2.2.2.2.2.2.2.2.1)),(0,(a3.2.2.2.2.2.2.2.2.2.2.2.2.1,((ae .i64 a3.2.2.2.2.2.2.2.2.2.2.2.2.2.1 1),a3.2.2.2.2.2.2.2.2.2.2.2.2.2.2)))))))))))))),(0,())),(d0,(Em.2.1,(d2,()))))) (some (((a3.1,(23,(a3.2.2.1,(a3.2.2.2.1,(a3.2.2.2.2.1,(a3.2.2.2.2.2.1,(a3.2.2.2.2.2.2.1,(a3.2.2.2.2.2.2.2.1,(a3.2.2.2.2.2.2.2.2.1,(a3.2.2.2.2.2.2.2.2.2.1,((tk (ay (nN (aE .i64 (zN (len a3.2.2.2.2.2.2.2.2.2.2.1)) 1)) 0) (dr 0 a3.2.2.2.2.2.2.2.2.2.2.1)),(0,(a3.2.2.2.2.2.2.2.2.2.2.2.2.1,((ae .i64 a3.2.2.2.2.2.2.2.2.2.2.2.2.2.1 1),a3.2.2.2.2.2.2.2.2.2.2.2.2.2.2)))))))))))))),(0,())),(d0,(Em.2.1,(d2,()))))))))))))))))) (br (ak a3.2.1 22) (jn (fun (k54:U0→_)=>(br a3.2.2.2.2.2.2.2.2.2.2.2.2.2.2.2.1 (some ((((0,(0,(0,(0,(0,(0,0)))))),(0,(0,(0,(0,([],(0,(0,(0,(0,([],(0,([],(0,(false,(false,(false,(0,(0,[]))))))))))))))))))),(1,())),(d0,(d1,(d2,()))))) (k54 ((),((),((),(((0,(0,(0,(0,(0,(0,(0,(0,(0,(0,(0,([],(0,(0,(0,(0,([],(0,([],(0,(false,(false,(false,(0,(0,([],())))))))))))))))))))))))))),()),()))))))) (fun (s55:U0)=>(bd (g.dU a3.2.2.2.2.2.2.2.1) (fun wy=>(jn (fun (k57:(Unit×(Unit×(Unit×(((Int×(Int×ja))×Unit)×Unit))))→_)=>(bd (g.pD wy.1.1) (fun Ae=>(k57 ((),((),((),(((Ae.1.1.1,(Ae.1.1.2.1,(Ae.1.1.2.2.1,(Ae.1.1.2.2.2,())))),()),())))))))) (fun (Yz:(Unit×(Unit×(Unit×(((Int×(Int×ja))×Unit)×Unit)))))=>(bd (g.gY (Yz.2.2.2.1.1.1,(Yz.2.2.2.1.1.2.1,(Yz.2.2.2.1.1.2.2.1,Yz.2.2.2.1.1.2.2.2.1)))) (fun Ek=>(bd (g.db a0 0 a3.2.2.1) (fun Uf=>(bd (g.aZ a2 Uf.1.1 Ek.1.1 d0 d1) (fun Ue=>(bd (g.a_ a3 25 a3.2.2.2.2.2.2.2.2.2.2.2.2.2.1) (fun uA=>(some ((uA.1.1,(0,())),(d0,(Ue.2.1,(d2,()))))))))))))))))))) (br (ak a3.2.1 23) (jn (fun (k64:U0→_)=>(br a3.2.2.2.2.2.2.2.2.2.2.2.2.2.2.2.1 (some ((((0,(0,(0,(0,(0,(0,0)))))),(0,(0,(0,(0,([],(0,(0,(0,(0,([],(0,([],(0,(false,(false,(false,(0,(0,[]))))))))))))))))))),(1,())),(d0,(d1,(d2,()))))) (k64 ((),((),((),(((0,(0,(0,(0,(0,(0,(0,(0,(0,(0,(0,([],(0,(0,(0,(0,([],(0,([],(0,(false,(false,(false,(0,(0,([],())))))))))))))))))))))))))),()),()))))))) (fun (s65:U0)=>(bd (g.db a0 4 a3.2.2.1) (fun HQ=>(bd (g.aZ a2 HQ.1.1 0 d0 d1) (fun p67=>(br (aQ (cS .i64 a3.2.2.2.2.2.2.1) a3.2.2.2.2.2.2.2.2.2.1) (some (((a3.1,(24,(a3.2.2.1,(a3.2.2.2.1,(a3.2.2.2.2.1,(a3.2.2.2.2.2.1,(a3.2.2.2.2.2.2.1,(a3.2.2.2.2.2.2.2.1,((cS .i64 a3.2.2.2.2.2.2.1),a3.2.2.2.2.2.2.2.2.2))))))))),(0,())),(d0,(p67.2.1,(d2,()))))) (some (((a3.1,(25,(a3.2.2.1,(a3.2.2.2.1,(a3.2.2.2.2.1,(a3.2.2.2.2.2.1,(a3.2.2.2.2.2.2.1,(a3.2.2.2.2.2.2.2.1,((cS .i64 a3.2.2.2.2.2.2.1),a3.2.2.2.2.2.2.2.2.2))))))))),(0,())),(d0,(p67.2.1,(d2,())))))))))))) (br (ak a3.2.1 24) (jn (fun (k68:U0→_)=>(br a3.2.2.2.2.2.2.2.2.2.2.2.2.2.2.2.1 (some ((((0,(0,(0,(0,(0,(0,0)))))),(0,(0,(0,(0,([],(0,(0,(0,(0,([],(0,([],(0,(false,(false,(false,(0,(0,[]))))))))))))))))))),(1,())),(d0,(d1,(d2,()))))) (k68 ((),((),((),(((0,(0,(0,(0,(0,(0,(0,(0,(0,(0,(0,([],(0,(0,(0,(0,([],(0,([],(0,(false,(false,(false,(0,(0,([],())))))))))))))))))))))))))),()),()))))))) (fun (GX:U0)=>(bd (g.aZ a2 a3.2.2.2.2.2.2.2.2.1 0 d0 d1) (fun p70=>(br (aQ (ae .i64 a3.2.2.2.2.2.2.2.2.1 8) a3.2.2.2.2.2.2.2.2.2.1) (some (((a3.1,(24,(a3.2.2.1,(a3.2.2.2.1,(a3.2.2.2.2.1,(a3.2.2.2.2.2.1,(a3.2.2.2.2.2.2.1,(a3.2.2.2.2.2.2.2.1,((ae .i64 a3.2.2.2.2.2.2.2.2.1 8),a3.2.2.2.2.2.2.2.2.2))))))))),(0,())),(d0,(p70.2.1,(d2,()))))) (some (((a3.1,(25,(a3.2.2.1,(a3.2.2.2.1,(a3.2.2.2.2.1,(a3.2.2.2.2.2.1,(a3.2.2.2.2.2.2.1,(a3.2.2.2.2.2.2.2.1,((ae .i64 a3.2.2.2.2.2.2.2.2.1 8),a3.2.2.2.2.2.2.2.2.2))))))))),(0,())),(d0,(p70.2.1,(d2,())))))))))) (br (ak a3.2.1 25) (jn (fun (k71:U0→_)=>(br a3.2.2.2.2.2.2.2.2.2.2.2.2.2.2.2.1 (some ((((0,(0,(0,(0,(0,(0,0)))))),(0,(0,(0,(0,([],(0,(0,(0,(0,([],(0,([],(0,(false,(false,(false,(0,(0,[]))))))))))))))))))),(1,())),(d0,(d1,(d2,()))))) (k71 ((),((),((),(((0,(0,(0,(0,(0,(0,(0,(0,(0,(0,(0,([],(0,(0,(0,(0,([],(0,([],(0,(false,(false,(false,(0,(0,([],())))))))))))))))))))))))))),()),()))))))) (fun (s72:U0)=>(bd (g.db a0 3 a3.2.2.1) (fun MM=>(bd (g.aZ a2 MM.1.1 0 d0 d1) (fun p74=>(some (((a3.1,(26,a3.2.2)),(0,())),(d0,(p74.2.1,(d2,()))))))))))) (br (ak a3.2.1 26) (jn (fun (k75:U0→_)=>(br a3.2.2.2.2.2.2.2.2.2.2.2.2.2.2.2.1 (some ((((0,(0,(0,(0,(0,(0,0)))))),(0,(0,(0,(0,([],(0,(0,(0,(0,([],(0,([],(0,(false,(false,(false,(0,(0,[]))))))))))))))))))),(1,())),(d0,(d1,(d2,()))))) (k75 ((),((),((),(((0,(0,(0,(0,(0,(0,(0,(0,(0,(0,(0,([],(0,(0,(0,(0,([],(0,([],(0,(false,(false,(false,(0,(0,([],())))))))))))))))))))))))))),()),()))))))) (fun (s76:U0)=>(bd (g.dU a3.2.2.2.2.2.2.2.1) (fun p77=>(jn (fun (k78:(Unit×(Unit×(Unit×(((Int×(Int×ja))×Unit)×Unit))))→_)=>(bd (g.pC p77.1.1) (fun YF=>(k78 ((),((),((),(((YF.1.1.1,(YF.1.1.2.1,(YF.1.1.2.2.1,(YF.1.1.2.2.2,())))),()),())))))))) (fun (Yy:(Unit×(Unit×(Unit×(((Int×(Int×ja))×Unit)×Unit)))))=>(bd (g.gY (Yy.2.2.2.1.1.1,(Yy.2.2.2.1.1.2.1,(Yy.2.2.2.1.1.2.2.1,Yy.2.2.2.1.1.2.2.2.1)))) (fun p81=>(bd (g.db a0 0 a3.2.2.1) (fun p82=>(bd (g.aZ a2 p82.1.1 p81.1.1 d0 d1) (fun p83=>(bd (g.a_ a3 0 a3.2.2.2.2.2.2.2.2.2.2.2.2.2.1) (fun p84=>(some ((p84.1.1,(0,())),(d0,(p83.2.1,(d2,()))))))))))))))))))) (jn (fun (k85:U0→_)=>(br a3.2.2.2.2.2.2.2.2.2.2.2.2.2.2.2.1 (some ((((0,(0,(0,(0,(0,(0,0)))))),(0,(0,(0,(0,([],(0,(0,(0,(0,([],(0,([],(0,(false,(false,(false,(0,(0,[]))))))))))))))))))),(1,())),(d0,(d1,(d2,()))))) (some ((((0,(0,(0,(0,(0,(0,0)))))),(0,(0,(0,(0,([],(0,(0,(0,(0,([],(0,([],(0,(false,(false,(false,(0,(0,[]))))))))))))))))))),(1,())),(d0,(d1,(d2,()))))))) (fun (s86:U0)=>none))))))))))))))
def F64:Plain Ti:=fun x c d=>g.iy x.1 x.2.1 x.2.2.1 x.2.2.2.1 d.1 d.2.1 d.2.2.1
theorem ac8:bj Tryz.prog 64 Ti F64:=bD (ao CM (ao N6 (ao zh (ao CL (ao pE (ao Gf (ao L_ (ao L9 (ao XJ (ao AZ (ao XI (ao XH (ao XG (ao XF (ao XE (ao XD (Gc CO (aH)))))))))))))))))) fun x c d=>by kernel_rfl
def Ly:da:=⟨[(true,(.pair (.pair (.int .u8) (.pair (.int .u8) (.pair (.int .u8) (.pair (.int .u8) (.pair (.int .i64) (.pair (.int .i64) (.int .i64))))))) (.pair (.int .i64) (.pair (.int .i64) (.pair (.int .u64) (.pair (.int .u64) (.pair (.aF (.pair (.int .i64) .bool)) (.pair (.int .u64) (.pair (.int .u64) (.pair (.int .i64) (.pair (.int .i64) (.pair (.aF (.int .i64)) (.pair (.int .i64) (.pair (.aF (.int .i64)) (.pair (.int .i64) (.pair .bool (.pair .bool (.pair .bool (.pair (.int .i64) (.pair (.int .i64) (.aF (.int .i64)))))))))))))))))))))),(true,(.pair (.pair (.int .u8) (.pair (.int .u8) (.pair (.int .u8) (.pair (.int .u8) (.pair (.int .i64) (.pair (.int .i64) (.int .i64))))))) (.pair (.int .i64) (.pair (.int .i64) (.pair (.int .u64) (.pair (.int .u64) (.pair (.aF (.pair (.int .i64) .bool)) (.pair (.int .u64) (.pair (.int .u64) (.pair (.int .i64) (.pair (.int .i64) (.pair (.aF (.int .i64)) (.pair (.int .i64) (.pair (.aF (.int .i64)) (.pair (.int .i64) (.pair .bool (.pair .bool (.pair .bool (.pair (.int .i64) (.pair (.int .i64) (.aF (.int .i64))))))))))))))))))))))],[(true,(.pair (.pair (.int .u8) (.pair (.int .u8) (.pair (.int .u8) (.pair (.int .u8) (.pair (.int .i64) (.pair (.int .i64) (.int .i64))))))) (.pair (.int .i64) (.pair (.int .i64) (.pair (.int .u64) (.pair (.int .u64) (.pair (.aF (.pair (.int .i64) .bool)) (.pair (.int .u64) (.pair (.int .u64) (.pair (.int .i64) (.pair (.int .i64) (.pair (.aF (.int .i64)) (.pair (.int .i64) (.pair (.aF (.int .i64)) (.pair (.int .i64) (.pair .bool (.pair .bool (.pair .bool (.pair (.int .i64) (.pair (.int .i64) (.aF (.int .i64))))))))))))))))))))))],[],[]⟩
def g.l_ (a0:U1) (a1:U1):(Option ((U1×Unit)×Unit)):=(some (((a1.1,(a0.2.1,a1.2.2)),()),()))
def aeC:Plain Ly:=fun x c d=>g.l_ x.1 x.2.1
theorem X6:bj Tryz.prog 108 Ly aeC:=bD (aH) fun x c d=>by kernel_rfl
def KS:da:=⟨[(false,(.aF (.pair (.int .i64) .bool))),(false,(.int .i64))],[(false,(.int .i64))],[],[]⟩
def g.j6 (a0:nZ) (a1:Int):pP:=(bd (g.kC a0 a1) (fun p0=>(br (aQ p0.1.1 0) (some (((-1),()),())) (gd (IE p0.1.1 p0.1.1) (gd (bn p0.1.1) (gd (bp 0 (nN p0.1.1)) (gd (bp (nN p0.1.1) (len a0)) (bd (g.cB (tk (ay (nN p0.1.1) 0) (dr 0 a0))) (fun p1=>(some ((p1.1.1,()),())))))))))))
def adZ:Plain KS:=fun x c d=>g.j6 x.1 x.2.1
theorem XC:bj Tryz.prog 220 KS adZ:=bD (ao Xu (ao Mc (aH))) fun x c d=>by kernel_rfl
def K9:da:=⟨[(false,(.aF (.pair (.int .i64) .bool))),(false,(.int .i64)),(false,(.int .i64))],[(false,.bool)],[],[]⟩
def g.gZ (a0:nZ) (a1:Int) (k:((ja×U2)→mF)) (s:(ja×U2)):mF:=(br (aQ s.1.2.1 9) (br (ak s.1.1 a1) (some ((true,()),())) (bd (g.j6 a0 s.1.1) (fun p0=>(k ((p0.1.1,((ae .i64 s.1.2.1 1),())),((),((),((),())))))))) (some ((false,()),())))
def g.jG (a0:nZ) (a1:Int) (a2:Int):mF:=(br (ak a1 0) (some ((true,()),())) (loop (g.gZ a0 a1) ((a2,(0,())),((),((),((),()))))))
def aee:Plain K9:=fun x c d=>g.jG x.1 x.2.1 x.2.2.1
theorem XR:bj Tryz.prog 161 K9 aee:=bD (ao XC (aH)) fun x c d=>by kernel_rfl
end Go.Proofs.YtklkjncibchelaaGreat