/- Texts of one proof, put together: see each part. -/
import Derived.Shelf.Spec.SlicesGrow
import Derived.Shelf.RegionOpenPlain
import Derived.WalkKit
import Derived.Lib.Walk
import Derived.Lib.SliceRun
import Derived.KernelRfl
import Derived.Deep.Slices
import Derived.WideShapes
import Derived.ChangeArms
import Derived.Deep.OwnRows
import Derived.WideKeyArgs
import Derived.OpenShut
import Derived.Carry
import Derived.Conc.LoneSelect
import Derived.Test.YtklkjncibchelaaGreatProg
import Derived.Conc.EventLaws
import Derived.Test.YtklkjncibchelaaGreatPC
set_option maxHeartbeats 2000000
noncomputable section
set_option linter.unusedVariables false
set_option linter.unusedSimpArgs false
namespace Go.Proofs
open Go.Shelf
def Tryz.la:Go.Shelf.Ren:=⟨fun | 4=>237 | n=>n,fun | 22=>41 | 25=>3 | 3=>3 | 4=>4 | 9=>9 | 20=>20 | 0=>0 | n=>n,fun | n=>n⟩
theorem Tryz.vN:Go.Proofs.Lays8.n4 Tryz.prog Tryz.la where
 mixed:=by kernel_rfl
 f4:=⟨Tryz.f237.name,by kernel_rfl,Tryz.func237.trans (congrArg some (by kernel_rfl))⟩
 t0:=Tryz.underlying0
 a0:=Tryz.isAgg0
 z0:=Tryz.sizeOf0
 v0:=Tryz.zeroValue0
 t3:=Tryz.underlying3
 a3:=Tryz.isAgg3
 z3:=Tryz.sizeOf3
 v3:=Tryz.zeroValue3
 t4:=Tryz.underlying4
 a4:=Tryz.isAgg4
 z4:=Tryz.sizeOf4
 v4:=Tryz.zeroValue4
 t9:=Tryz.underlying9
 a9:=Tryz.isAgg9
 z9:=Tryz.sizeOf9
 v9:=Tryz.zeroValue9
 t20:=Tryz.underlying20
 a20:=Tryz.isAgg20
 z20:=Tryz.sizeOf20
 v20:=Tryz.zeroValue20
 t22:=Tryz.underlying41
 a22:=Tryz.isAgg41
 z22:=Tryz.sizeOf41
 v22:=Tryz.zeroValue41
end Go.Proofs
namespace Go.Proofs.YtklkjncibchelaaGreat
open Go.Bm Go.Shelf
abbrev BS:Ty:=(.pair (.int .i64) (.pair (.pair (.int .u8) (.pair (.int .u8) (.pair (.int .u8) (.pair (.int .u8) (.pair (.int .i64) (.pair (.int .i64) (.int .i64))))))) (.pair (.int .i64) (.pair (.int .i64) (.pair (.int .i64) (.pair (.int .i64) (.pair (.int .i64) (.aI (.int .i64)))))))))
theorem Ep:∃i,Tryz.prog.info? (Tryz.la.t 25)=some i∧i.zero=some (.int .i64 0)∧i.size=1∧i.bytes=8:=by
 obtain ⟨i,t1,t2,t3,t4,t5,t6⟩:=X2.ti
 exact ⟨i,t1,t2,t3,t4⟩
theorem Br:uz Tryz.prog 237 (.int .i64):=⟨⟨_,zd.bl,zd.name,by rw [zd.body];rfl⟩,fun n w hn=>by
 obtain ⟨i,h1,h2,h3,h4⟩:=Ep
 rcases Nat.eq_zero_or_pos n with rfl | h0
 ·exact (Any8.slices_Grow_room Tryz.vN none 0 0 0 w (by omega) (by omega) (by omega) (by omega)).mono fun e w' h=>⟨_,h.1,.inl ⟨rfl,h.2⟩⟩
 ·refine (Any8.slices_Grow_grow Tryz.vN i _ h1 h2 (by omega) none 0 0 n [] w (by omega) (by omega) (by rw [h4];omega) (by omega) (by simp) (fun _=>rfl) (fun a h=>by cases h)).mono fun e w' h=>⟨_,h.1,.inr ⟨_,_,_,rfl,h.2,?_,?_⟩⟩
  ·have:=grownCap_ge w (0+n) 0 (Tryz.la.t 25)
   show _*1≤_
   simp only [Array.size_append,size_zeroCells,Value.cells]
   simp
   omega
  ·exact grownCap_le_maxLen w _ _ _ (by unfold maxLen;omega)⟩
section
set_option maxRecDepth 100000
set_option maxHeartbeats 1000000
open Go.RowKit Go.Lib
theorem Ext.Ko {S:Hp} {g:G} {w:World} (ob:Obj):Ext S g w S g (w.alloc ob):=⟨.refl g,rfl,rfl,rfl,by rw [show (w.alloc ob).heap.size=w.heap.size+1 from Array.size_push _];omega,fun k hk _=>Below.heap_alloc w _ k hk,fun _ h=>.inl h,fun _ _ h=>.inl h,fun _ h=>h,fun _ _ _ h=>.inl h,fun _ _ h=>.inl h⟩
theorem p_ {P:Program} {ops:Array Oper} {o:Oper} {rest:List Oper} {a:Act} {w w':World} {v:Value} {Q:Exit→Act→World→Prop} (hg:o.guard=none) (h:(execOp a.eval o).run P w = .ok (.value v) w') (k:wpList P ops Q rest (a.put o.dst v) w'):wpList P ops Q (o::rest) a w:=by
 refine wpList_plain hg fun K hK=>?_
 unfold Oper.wp
 rw [h]
 exact hK _ _ k
theorem MS (n c:Nat) (w:World):Calls Tryz.prog 36 #[.slice none n c] w fun e w'=>e = .returned (.slice none 0 0)∧w'=w:=by
 have Ye:∀(w:World) (a:Option Addr) (n c n' c':Nat),(binOp .eql 41 (.slice a n c) (.slice none n' c')).run Tryz.prog w = .ok (.bool a.isNone) w:=fun w a n c n' c'=>Lib.run_eql_slice_nil w _ _ a n c n' c' Gk.u
 go_enter Tryz.func36,Tryz.ntmps36
 go_wp2
 go_ret
 exact ⟨rfl,rfl⟩
theorem Ie (g:G) (S:Hp) (q:Nat) (hf:S.fr q) (l:List Int) (hl:l.length≤16777216) (w:World) (hI:Inv g S w) (a:Addr) (n c:Nat) (hv:∀w2,Inv g S w2→Given g w2 (.slice (some a) n c) 1 l.length (l.flatMap (aA (.int .i64)))):Calls Tryz.prog 36 #[.slice (some a) n c] w fun e w'=>∃v g',e = .returned v∧V g' (.tw (.loc q) 1) v∧Inv g' (S.new q (.cells (l.flatMap (aA (.int .i64))))) w'∧Ext S g w (S.new q (.cells (l.flatMap (aA (.int .i64))))) g' w':=by
 have Ye:∀(w:World) (a:Option Addr) (n c n' c':Nat),(binOp .eql 41 (.slice a n c) (.slice none n' c')).run Tryz.prog w = .ok (.bool a.isNone) w:=fun w a n c n' c'=>Lib.run_eql_slice_nil w _ _ a n c n' c' Gk.u
 have hw:Inv g S (w.alloc (.cells #[] 3)):=hI.world (by rw [show (w.alloc (.cells #[] 3)).heap.size=w.heap.size+1 from Array.size_push _];omega) (fun k hk=>Below.heap_alloc w _ k hk)
 have tU:Given g (w.alloc (.cells #[] 3)) (.slice (some a) n c) 1 l.length (l.flatMap (aA (.int .i64))):=hv _ hw
 obtain ⟨v,g',w',eH,k1,k2,k3⟩:=gS (P:=Tryz.prog) (ty:=41) (some ⟨w.heap.size,0,none⟩) Gk.u X2.ti hw tU hf (by show _*8≤_;omega) (by unfold maxLen;omega)
 have k3:=(Ext.Ko (S:=S) (g:=g) (w:=w) (.cells #[] 3)).trans k3
 clear tU hw
 go_enter Tryz.func36,Tryz.ntmps36
 go_wp2_with (at_builtin;refine p_ (v:=v) (w':=w') rfl (by simp [execOp,resolve,invoke,Act.eval,builtin,eH]) ?_)
 go_ret
 exact ⟨v,g',rfl,k1,k2,k3⟩
theorem BG:oy Tryz.prog 36 (.int .i64):=⟨⟨_,HX.bl,HX.name,by rw [HX.body];rfl⟩,MS,fun g S q hf l hl w hI a n c hv=>Ie g S q hf l hl w hI a n c hv⟩
theorem E5 (n c:Nat) (w:World):Calls Tryz.prog 35 #[.slice none n c] w fun e w'=>e = .returned (.slice none 0 0)∧w'=w:=by
 have Ye:∀(w:World) (a:Option Addr) (n c n' c':Nat),(binOp .eql 37 (.slice a n c) (.slice none n' c')).run Tryz.prog w = .ok (.bool a.isNone) w:=fun w a n c n' c'=>Lib.run_eql_slice_nil w _ _ a n c n' c' Gl.u
 go_enter Tryz.func35,Tryz.ntmps35
 go_wp2
 go_ret
 exact ⟨rfl,rfl⟩
theorem BJ (g:G) (S:Hp) (q:Nat) (hf:S.fr q) (l:List BS.T) (hl:l.length≤16777216) (w:World) (hI:Inv g S w) (a:Addr) (n c:Nat) (hv:∀w2,Inv g S w2→Given g w2 (.slice (some a) n c) 14 l.length (l.flatMap (aA BS))):Calls Tryz.prog 35 #[.slice (some a) n c] w fun e w'=>∃v g',e = .returned v∧V g' (.tw (.loc q) 14) v∧Inv g' (S.new q (.cells (l.flatMap (aA BS)))) w'∧Ext S g w (S.new q (.cells (l.flatMap (aA BS)))) g' w':=by
 have Ye:∀(w:World) (a:Option Addr) (n c n' c':Nat),(binOp .eql 37 (.slice a n c) (.slice none n' c')).run Tryz.prog w = .ok (.bool a.isNone) w:=fun w a n c n' c'=>Lib.run_eql_slice_nil w _ _ a n c n' c' Gl.u
 have hw:Inv g S (w.alloc (.cells #[] 45)):=hI.world (by rw [show (w.alloc (.cells #[] 45)).heap.size=w.heap.size+1 from Array.size_push _];omega) (fun k hk=>Below.heap_alloc w _ k hk)
 have tU:Given g (w.alloc (.cells #[] 45)) (.slice (some a) n c) 14 l.length (l.flatMap (aA BS)):=hv _ hw
 obtain ⟨v,g',w',eH,k1,k2,k3⟩:=gS (P:=Tryz.prog) (ty:=37) (some ⟨w.heap.size,0,none⟩) Gl.u P2.ti hw tU hf (by show _*104≤_;omega) (by unfold maxLen;omega)
 have k3:=(Ext.Ko (S:=S) (g:=g) (w:=w) (.cells #[] 45)).trans k3
 clear tU hw
 go_enter Tryz.func35,Tryz.ntmps35
 go_wp2_with (at_builtin;refine p_ (v:=v) (w':=w') rfl (by simp [execOp,resolve,invoke,Act.eval,builtin,eH]) ?_)
 go_ret
 exact ⟨v,g',rfl,k1,k2,k3⟩
theorem BH:oy Tryz.prog 35 BS:=⟨⟨_,HY.bl,HY.name,by rw [HY.body];rfl⟩,E5,fun g S q hf l hl w hI a n c hv=>BJ g S q hf l hl w hI a n c hv⟩
end
end Go.Proofs.YtklkjncibchelaaGreat
namespace Go.Bm
section
open Go.RowKit Go.ChangeShapes Go.WideShapes Go.Deep
def DC (W:World):Mem:=fun b o=>(W.cell? ⟨b,o,none⟩).filter (·.oneCell')
theorem BM {W:World} {b o:Nat} {x:Value} (h:W.cell? ⟨b,o,none⟩=some x):∃cur ty fz,W.heap[b]?=some (.cells cur ty fz)∧cur[o]?=some x:=by
 unfold World.cell? at h
 split at h
 ·rename_i c ty fz hb
  simp at h
  exact ⟨c,ty,fz,hb,h⟩
 ·cases h
def inR (k:IntKind) (a:Int):Prop:=k.min≤a∧a≤k.max
def FQ:(t:Ty)→t.T→Prop
 | .int k,a=>inR k a
 | .bool,_=>True
 | .unit,_=>True
 | .pair a b,x=>FQ a x.1∧FQ b x.2
 | .arr n t,l=>List.length (α:=t.T) l=n∧∀x:t.T,List.Mem (α:=t.T) x l→FQ t x
 | .aI t,l=>List.length (α:=t.T) l≤maxLen∧∀x:t.T,List.Mem (α:=t.T) x l→FQ t x
 | _,_=>False
def Iv (P:Program) (W:World) (t:TypeId) (u:Ty):Prop:=
 ∀(H:Type) (enc:TypeId×Value→H) (n:Nat) (cs:List Value) (x:DataW H×List MemPlace),DataW.trod enc P W 0 (fun _=>true) true n t cs=some x→∃a:u.T,l9 (DC W) (dw u a) cs∧FQ u a
theorem l9.oP {M:Mem} {d:D} {v:Value} (h:VD M d v):l9 M [d] [v]:=⟨rfl,fun j c x k1 k2=>by
 cases j with
 | zero=>simp at k1 k2;subst k1 k2;exact h
 | succ j=>simp at k1⟩
theorem l9.cut {M:Mem} {ds es:List D} {cs:List Value} (n:Nat) (h1:l9 M ds (cs.take n)) (h2:l9 M es (cs.drop n)):l9 M (ds++es) cs:=by
 have:=h1.append h2
 rwa [zP] at this
section
variable {P:Program} {W:World}
theorem Ke {t:TypeId} {k:IntKind} (ht:P.underlying t=some (.int k)):Iv P W t (.int k):=by
 intro H enc n cs x h
 obtain ⟨a,rfl,_,hw⟩:=DataW.trod_int ht h
 refine ⟨a,.oP (.v _ rfl),?_⟩
 have hw:(decide (k.min≤a) && decide (a≤k.max))=true:=hw
 rw [zC] at hw
 exact ⟨of_decide_eq_true hw.1,of_decide_eq_true hw.2⟩
theorem BA {u:Ty} (l:List u.T) (n:Nat) (hn:l.length=n):dw (.arr n u) l=(l.map (dw u)).flatten:=by
 subst hn
 have:=sk (dw u) u.cF l
 rw [←List.flatMap_def]
 exact this
theorem RZ {t e:TypeId} {n:Nat} {u:Ty} (ht:P.underlying t=some (.array n e)) (he:P.cellsOf e=u.size) (hn:P.cellsOf t=n*u.size) (h:Iv P W e u):Iv P W t (.arr n u):=by
 intro H enc m cs x hx
 obtain ⟨xs,m',_,_,hl,hxl,Mh⟩:=DataW.trod_array ht hx
 rw [he] at Mh
 have key:∀k,k≤n→∃K3:List u.T,K3.length=k∧l9 (DC W) (K3.map (dw u)).flatten (cs.drop ((n-k)*u.size))∧∀x∈K3,FQ u x:=by
  intro k
  induction k with
  | zero=>
   intro _
   refine ⟨[],rfl,?_,by simp⟩
   rw [Nat.sub_zero,←hn,←hl,List.drop_length];exact ⟨rfl,by simp⟩
  | succ k ih=>
   intro hk
   obtain ⟨K3,a1,a2,a3⟩:=ih (by omega)
   have h1:=Mh (n-(k+1)) (by omega)
   have SR:xs[n-(k+1)]?=some xs[n-(k+1)]:=zD (by omega)
   rw [SR] at h1
   obtain ⟨a,b1,b2⟩:=h H enc m' _ _ h1
   refine ⟨a::K3,by simp [a1],?_,?_⟩
   ·rw [List.map_cons,List.flatten_cons]
    refine .cut u.size b1 ?_
    rw [List.drop_drop]
    have:(n-(k+1))*u.size+u.size=(n-k)*u.size:=by rw [←Nat.succ_mul];congr 1;omega
    rw [this];exact a2
   ·intro y hy
    rcases List.mem_cons.1 hy with rfl | hy
    ·exact b2
    ·exact a3 y hy
 obtain ⟨K3,a1,a2,a3⟩:=key n (Nat.le_refl _)
 rw [Nat.sub_self,Nat.zero_mul,List.drop_zero] at a2
 refine ⟨K3,?_,a1,a3⟩
 rw [BA K3 n a1];exact a2
inductive RdF (P:Program) (W:World):List Field→Nat→Ty→Prop
 | one {fd:Field} {off:Nat} {a:Ty} (h:Iv P W fd.type a) (ho:fd.offset=off) (hs:P.cellsOf fd.type=a.size):RdF P W [fd] off a
 | cons {fd:Field} {fs:List Field} {off:Nat} {a b:Ty} (h:Iv P W fd.type a) (ho:fd.offset=off) (hs:P.cellsOf fd.type=a.size) (k:RdF P W fs (off+a.size) b):RdF P W (fd::fs) off (.pair a b)
def HO (W:World):G:=⟨fun _=>none,DC W,fun _=>none⟩
theorem Inv.start {S:Hp} (hS:∀o,S.ob o=none):Inv (HO W) S W where
 cells:=fun o cs h=>by rw [hS] at h;cases h
 cN:=fun o x h=>by rw [hS] at h;cases h
 fresh:=fun _ _=>rfl
 lt:=fun o b s h=>by cases h
 inj:=fun o o' x x' b s s' h=>by rw [hS] at h;cases h
 mem:=fun b i x h=>by
  have h:(W.cell? ⟨b,i,none⟩).filter (·.oneCell')=some x:=h
  rw [Option.filter_eq_some_iff] at h
  exact BM h.1
 kD:=fun o b s i x h=>by rw [hS] at h;cases h
 lp:=fun b l h=>by cases h
theorem Lo {t:TypeId} {u:Ty} {H:Type} {enc:TypeId×Value→H} {v:Value} {dd:DataW H} {p:List MemPlace} (hr:Iv P W t u) (hd:u.data=true) (hc:v.cells.toList=[v]) (h:DataW.Trod enc P W 0 (fun _=>true) true t v dd p) :
  ∃a:u.T,V (HO W) (bK false u a) v∧FQ u a:=by
 obtain ⟨fuel,hf⟩:=h
 rw [hc] at hf
 obtain ⟨a,h1,h2⟩:=hr H enc fuel _ _ hf
 have h3:=l9.cells (g:=HO W) u a _ hd h1
 refine ⟨a,?_,h2⟩
 show V (HO W) (match aA u a with | [c]=>c | _=>.cD) v
 obtain ⟨hl,h4⟩:=h3
 match he:aA u a with
 | [c]=>exact (h4 0 c v (by rw [he];rfl) rfl).1
 | []=>exact .cD _
 | _::_::_=>exact .cD _
theorem Gz {t:TypeId} {u:Ty} {H:Type} {enc:TypeId×Value→H} {vs:Array Value} {dd:DataW H} {p:List MemPlace} (hr:Iv P W t u) (hd:u.data=true) (h:DataW.Trod enc P W 0 (fun _=>true) true t (.agg vs) dd p) :
  ∃a:u.T,V (HO W) (bK true u a) (.agg vs)∧FQ u a:=by
 obtain ⟨fuel,hf⟩:=h
 obtain ⟨a,h1,h2⟩:=hr H enc fuel _ _ hf
 have h3:=l9.cells (g:=HO W) u a _ hd h1
 have h3:Vs (HO W) (aA u a) vs.toList:=by simpa [Value.cells] using h3
 exact ⟨a,by have:=h3.agg;simpa [bK] using this,h2⟩
theorem xd {base:Nat} {t e:TypeId} {n:Nat} {v:Value} (ht:P.underlying t=some (.array n e)) (h:Value.okWide P W .any base t v):∃vs,v = .agg vs:=by
 unfold Value.okWide at h
 rw [ht] at h
 obtain ⟨cs,h1,_⟩:=h
 exact ⟨cs,h1⟩
def emK:(k:RK)→k.T
 | .box t=>([]:List t.T)
 | .row t=>([]:List (Option (List t.T)))
 | .map _ tk _ tv=>([]:List (List (tk.T×tv.T)))
def BB:(l:List (Nat×RK))→pY l
 | []=>()
 | p::l=>(emK p.2,BB l)
theorem CU:∀(k:RK) (j:Nat),dK k (emK k) j=none
 | .box _,_=>rfl
 | .row _,_=>rfl
 | .map _ _ _ _,_=>rfl
theorem ql:∀(l:List (Nat×RK)) (r:Nat) (x:Rg),bn (dq l (BB l)) r=some x→∀j,dK x.k x.c j=none
 | [],r,x,h,j=>by cases h
 | p::l,r,x,h,j=>by
  have h:(bif Nat.beq p.1 r then some (⟨p.1,p.2,emK p.2⟩:Rg) else bn (dq l (BB l)) r)=some x:=h
  cases hp:Nat.beq p.1 r with
  | true=>rw [hp] at h;cases h;exact CU p.2 j
  | false=>rw [hp] at h;exact ql l r x h j
theorem HN (rl wl:List (Nat×RK)) (o:Nat):(hp (h0 rl wl (BB rl) (BB wl))).ob o=none:=by
 show (if o<cE then fh .nil o else dL (dq wl (BB wl)++dq rl (BB rl)) o)=none
 split
 ·unfold fh;rw [Tr.get_nil]
 ·unfold dL
  rw [gH]
  cases h1:bn (dq wl (BB wl)) (lE o) with
  | some x=>exact ql wl _ x h1 _
  | none=>
   simp only
   cases h2:bn (dq rl (BB rl)) (lE o) with
   | some x=>exact ql rl _ x h2 _
   | none=>rfl
theorem DI {f:FuncId} {sg:dI} {F:Plain sg} (h:bB P f sg F) (hrs:sg.rs=[(false,.bool)]) (x:jU sg.ps) {y:jU sg.rs} {d':pY sg.wg} (hF:F x (BB sg.rg) (BB sg.wg)=some (y,d')) (hy:rK sg.rs y = .v (.bool true)) {vs:List Value}
  (hl:(l8 sg.ps x).length=vs.length) (hv:∀(i:Nat) (p:A) (v:Value),(l8 sg.ps x)[i]?=some p→vs[i]?=some v→V (HO W) p v) :
  Calls P f vs.toArray W fun e W'=>e = .returned (.bool true)∧Go.World.Since W.heap.size W W':=by
 obtain ⟨t,aS,lk,hp⟩:=h.pc x _ _ y d' hF
 refine (hp (HO W) W vs (.start (HN _ _)) hl hv).mono ?_
 rintro e W' ⟨v,g',rfl,h1,_,h3⟩
 rw [hy] at h1
 cases h1
 exact ⟨rfl,h3.os,h3.tape,h3.output,h3.size,fun k hk=>h3.frame k hk (by rintro ⟨o,s,x,_,e⟩;cases e)⟩
end
end
section
open Go.RowKit Go.Conc
def nL {σ ρ:Type} (f:Int→σ→(σ→Option ρ)→Option ρ):List Int→σ→(σ→Option ρ)→Option ρ
 | [],s,k=>k s
 | t::l,s,k=>f t s (fun s'=>nL f l s' k)
def o5 {D α β:Type} (LiveF:D→Option ((List Int×Unit)×α)) (StepF:Int→D→Option (β×D)) (most:Int) (k:Int×D→Option ((Int×(Int×Unit))×D)) (s:Int×D):Option ((Int×(Int×Unit))×D):=
 bd (LiveF s.2) (fun p=>br (aX 0 (zN (len p.1.1))) (br (cW (zN (len p.1.1)) 1000000)
  (nL (fun t s k=>br (af s.1 most) (some ((s.1,(3,())),s.2)) (bd (StepF t s.2) (fun q=>k (ae .i64 s.1 1,q.2)))) p.1.1 s k) none)
  (some ((s.1,(0,())),s.2)))
def ET {D α β:Type} (LiveF:D→Option ((List Int×Unit)×α)) (StepF:Int→D→Option (β×D)) (most:Int) (d:D):Option ((Int×(Int×Unit))×D):=
 br (aX most 0) (some ((0,(1,())),d)) (loop (o5 LiveF StepF most) (0,d))
structure Raw (S:Hp) (g:G) (w0 w:World) (b:Nat):Prop where
 ge:w0.heap.size≤b
 lt:b<w.heap.size
 ow:¬lA S g b
 mem:∀i,g.mem b i=none
 lp:g.lp b=none
structure KK (S0:Hp) (g0:G) (w0:World) (S:Hp) (g:G) (w:World):Prop where
 inv:Inv g S w
 ext:Ext S0 g0 w0 S g w
theorem KK.refl {S:Hp} {g:G} {w:World} (h:Inv g S w):KK S g w S g w:=⟨h,.refl S g w⟩
section
variable {P:Program} {S0 S S':Hp} {g0 g g':G} {w0 w w':World}
theorem Raw.ext {b:Nat} (h:Raw S g w0 w b) (e:Ext S g w S' g' w'):Raw S' g' w0 w' b∧w'.heap[b]?=w.heap[b]?:=by
 refine ⟨⟨h.ge,Nat.lt_of_lt_of_le h.lt e.size,fun o=>(e.own b o).elim h.ow (fun k=>absurd h.lt (by omega)),fun i=>?_,?_⟩,e.frame b h.lt h.ow⟩
 ·cases hm:g'.mem b i with
  | none=>rfl
  | some x=>exact absurd ((e.qI b i x hm).elim (fun k=>by rw [h.mem] at k;cases k) (fun k=>k.elim (fun k=>absurd k h.ow) (fun k=>absurd h.lt (by omega)))) id
 ·cases hm:g'.lp b with
  | none=>rfl
  | some x=>exact absurd ((e.lpo b x hm).elim (fun k=>by rw [h.lp] at k;cases k) (fun k=>absurd h.lt (by omega))) id
theorem KK.trans (k:KK S0 g0 w0 S g w) (hi:Inv g' S' w') (e:Ext S g w S' g' w'):KK S0 g0 w0 S' g' w':=⟨hi,k.ext.trans e⟩
theorem KK.call {f:FuncId} {aa:List A} {vs:List Value} {r:A} (F5:PC P f aa S S' r) (k:KK S0 g0 w0 S g w) (hl:aa.length=vs.length) (hv:∀(i:Nat) (p:A) (v:Value),aa[i]?=some p→vs[i]?=some v→V g p v) :
  Calls P f vs.toArray w (fun e w'=>∃v g',e = .returned v∧V g' r v∧KK S0 g0 w0 S' g' w'∧Le g g'∧∀b,Raw S g w0 w b→Raw S' g' w0 w' b∧w'.heap[b]?=w.heap[b]?):=by
 refine (F5 g w vs k.inv hl hv).mono ?_
 rintro e w' ⟨v,g',rfl,h1,h2,h3⟩
 exact ⟨v,g',rfl,h1,k.trans h2 h3,h3.le,fun b hb=>hb.ext h3⟩
theorem Inv.olt {o b:Nat} (h:Inv g S w) (ho:lA S g b):b<w.heap.size:=by
 obtain ⟨o,s,x,h1,h2⟩:=ho
 exact h.lt o b s h2
theorem KK.raw {b:Nat} (k:KK S0 g0 w0 S g w) (hb:w0.heap.size≤b) (ho:¬lA S g b) (hm:∀i,g.mem b i=none) (HF:g.lp b=none)
  (e1:w'.os=w.os) (e2:w'.tape=w.tape) (e3:w'.output=w.output) (hs:w.heap.size≤w'.heap.size) (hh:∀j,j<w.heap.size→j≠b→w'.heap[j]?=w.heap[j]?):KK S0 g0 w0 S g w':=by
 have hI:=k.inv
 refine ⟨⟨fun o cs e=>(hI.cells o cs e).imp id fun ⟨b',t,k1,cur,ty,k2,k3⟩=>⟨b',t,k1,cur,ty,by rw [hh b' (hI.lt _ _ _ k1) (fun h=>ho (h▸⟨o,_,_,e,k1⟩))];exact k2,k3⟩,
  fun o x e=>let ⟨b',s,ob,k1,k2,k3⟩:=hI.cN o x e;⟨b',s,ob,k1,by rw [hh b' (hI.lt _ _ _ k1) (fun h=>ho (h▸⟨o,_,_,e,k1⟩))];exact k2,k3⟩,
  hI.fresh,fun o b s e=>Nat.lt_of_lt_of_le (hI.lt o b s e) hs,hI.inj,
  fun b' i x e=>let ⟨cur,ty,fz,k1,k2⟩:=hI.mem b' i x e;⟨cur,ty,fz,by rw [hh b' (Array.getElem?_eq_some_iff.1 k1).1 (fun h=>by rw [h,hm] at e;cases e)];exact k1,k2⟩,
  hI.kD,fun b' l e=>let ⟨r,k1,k2⟩:=hI.lp b' l e;⟨r,by rw [hh b' (Array.getElem?_eq_some_iff.1 k1).1 (fun h=>by rw [h,HF] at e;cases e)];exact k1,k2⟩⟩,?_⟩
 have hE:=k.ext
 exact ⟨hE.le,e1.trans hE.os,e2.trans hE.tape,e3.trans hE.output,Nat.le_trans hE.size hs,fun j hj hn=>by
  rw [hh j (Nat.lt_of_lt_of_le hj hE.size) (by omega)];exact hE.frame j hj hn,hE.own,hE.H8,hE.fr,hE.qI,hE.lpo⟩
theorem KK.change {b:Nat} (k:KK S0 g0 w0 S g w) (hb:Raw S g w0 w b)
  (e1:w'.os=w.os) (e2:w'.tape=w.tape) (e3:w'.output=w.output) (hs:w'.heap.size=w.heap.size) (hh:∀j,j≠b→w'.heap[j]?=w.heap[j]?):KK S0 g0 w0 S g w'∧∀j,Raw S g w0 w j→Raw S g w0 w' j:=
 ⟨k.raw hb.ge hb.ow hb.mem hb.lp e1 e2 e3 (Nat.le_of_eq hs.symm) (fun j _ h=>hh j h),fun j h=>⟨h.ge,by rw [hs];exact h.lt,h.ow,h.mem,h.lp⟩⟩
theorem KK.alloc (k:KK S0 g0 w0 S g w) (ob:Obj):KK S0 g0 w0 S g (w.alloc ob)∧Raw S g w0 (w.alloc ob) w.heap.size∧∀j,Raw S g w0 w j→Raw S g w0 (w.alloc ob) j∧(w.alloc ob).heap[j]?=w.heap[j]?:=by
 have ho:¬lA S g w.heap.size:=fun h=>Nat.lt_irrefl _ (Inv.olt (o:=0) k.inv h)
 have hm:∀i,g.mem w.heap.size i=none:=fun i=>by
  cases e:g.mem w.heap.size i with
  | none=>rfl
  | some x=>exact absurd (k.inv.mlt e) (Nat.lt_irrefl _)
 have HF:g.lp w.heap.size=none:=by
  cases e:g.lp w.heap.size with
  | none=>rfl
  | some l=>obtain ⟨r,k1,_⟩:=k.inv.lp _ _ e;exact absurd (Array.getElem?_eq_some_iff.1 k1).1 (Nat.lt_irrefl _)
 have nW:(w.alloc ob).heap.size=w.heap.size+1:=Array.size_push ..
 have hh:∀j,j<w.heap.size→(w.alloc ob).heap[j]?=w.heap[j]?:=fun j hj=>by show (w.heap.push ob)[j]?=_;rw [Array.getElem?_push,if_neg (Nat.ne_of_lt hj)]
 exact ⟨k.raw (b:=w.heap.size) k.ext.size ho hm HF rfl rfl rfl (by omega) (fun j hj _=>hh j hj),⟨k.ext.size,by omega,ho,hm,HF⟩,fun j h=>⟨⟨h.ge,by have:=h.lt;omega,h.ow,h.mem,h.lp⟩,hh j h.lt⟩⟩
theorem KP {f:FuncId} {sg:dI} {F:Plain sg} (hF:bB P f sg F) {aa:List A} {h h2:H} {pv:A} (hr:NL sg F aa h (fun pv h' _=>some (pv,h'))=some (pv,h2)):PC P f aa (hp h) (hp h2) pv:=by
 obtain ⟨C3,h',T,e,k⟩:=EX hF hr
 cases e
 have hs:=k.ok (hp h) Agree.self
 have e:ig T (hp h2) (hp h)=hp h2:=Hp.ext' (fun i=>by
  show (if touch T i=true then _ else _)=_
  split
  ·rfl
  ·rename_i hi;exact (k.out i (by simpa using hi)).1.symm) (fun i=>by
  show (if touch T i=true then _ else _)↔_
  split
  ·exact Iff.rfl
  ·rename_i hi;exact (k.out i (by simpa using hi)).2.symm)
 rw [e] at hs
 exact hs
theorem xj {f:FuncId} {args:Array Value} {R:Ending→World→Prop} {Q:Goroutine→World→Prop} {c:Frame} {cs:List Frame} (h:Calls P f args w R) (hn:∀e w',R e w'→∃v,e = .returned v)
  (hk:∀v w',R (.returned v) w'→LoneTo P Q (Go.Conc.G (c.finish v) cs) w'):LoneTo P Q (Go.Conc.G (Frame.enter P f args .normal) (c::cs)) w:=by
 obtain ⟨e,w',fr,hR,hc,hf,hl⟩:=h (c::cs)
 obtain ⟨v,rfl⟩:=hn e w' hR
 obtain ⟨g2,w2,hs,hq⟩:=hk v w' hR
 exact ⟨g2,w2,Steps.trans hc (Steps.head (step_leave_returned hl) hs),hq⟩
theorem gJ {b:Frame} {a:Act} {k:List Item} {cs:List Frame} {w:World} {ops:Array Oper} {i:Nat} {rest:List Nat} {o:Oper} {f:FuncId} {fn:Func} {args:Array Operand} {ats:Array TypeId} {vs:Array Value} {R:Ending→World→Prop} {Q:Goroutine→World→Prop}
  (ho:ops[i]?=some o) (hw:Region.wanted o (yielded ops a.tmps)=true) (hk:b.kind≠.early) (rD:o.op = .call { callee:=.value (.func f),args,argTypes:=ats })
  (hf : P.funcs[f]? = some fn) (Tc : (fn.name == "runtime.NumGoroutine") = false) (hb : fn.body.isNone = false) (yY : args.map a.eval = vs)
  (hc:Calls P f vs w R) (hn:∀e w',R e w'→∃v,e = .returned v)
  (hK:∀v w',R (.returned v) w'→LoneTo P Q (Go.Conc.G (b.at (a.put o.dst v) (.inRegion ops rest::k)) cs) w'):LoneTo P Q (Go.Conc.G (b.at a (.inRegion ops (i::rest)::k)) cs) w:=by
 refine LoneTo.step (step_solo_go rfl (stepG_enter ho hw hk (run_call_body rD hf Tc hb))) ?_
 rw [yY]
 refine xj hc hn (fun v w' hR=>?_)
 rw [Frame.finish_at,ho]
 exact hK v w' hR
theorem Cr (hI:Inv g S w) {k:IntKind} {full:Bool} {l:List Int} {v:Value} (h:V g (.tl (.int k) full l) v) :
  ∃ad cap,v = .slice ad l.length cap∧(0<l.length→∃q,ad=some q∧∀i x,l[i]?=some x→w.cell? (q.add i)=some (.int k x)):=by
 obtain ⟨ad,cap,us,h1,h2,h3,h4⟩:=V.sT hI (t:=.int k) rfl h
 refine ⟨ad,cap,h1,fun hl=>?_⟩
 obtain ⟨q,e,h5⟩:=h4 hl
 refine ⟨q,e,fun i x hx=>?_⟩
 have hi:i<us.length:=by
  refine Nat.lt_of_lt_of_le (zB.1 hx).1 (Nat.le_of_eq ?_)
  rw [h3];exact (Nat.mul_one _).symm
 have hf:∀l:List Int,(l.flatMap (aA (.int k)))=l.map (fun x=>A.v (.int k x)):=fun l=>by
  induction l with
  | nil=>rfl
  | cons a l ih=>show _::_=_::_;rw [←ih];rfl
 have h6:=(h2.2 i (.v (.int k x)) us[i] ((congrArg (fun z=>z[i]?) (hf l)).trans (by simp [hx])) (zD hi)).1
 have h7:=h5 i us[i] (zD hi)
 rw [h7]
 generalize us[i]=u at h6
 cases h6
 rfl
end
end
end Go.Bm
namespace Go.Proofs.YtklkjncibchelaaGreat
set_option maxRecDepth 100000
open Go.Conc Go.RowKit
structure kN (c:Nat) (w w':World):Prop where
 os:w'.os=w.os
 tape:w'.tape=w.tape
 output:w'.output=w.output
 size:w.heap.size≤w'.heap.size
 same:∀j,j<w.heap.size→j≠c→w'.heap[j]?=w.heap[j]?
theorem kN.refl (c:Nat) (w:World):kN c w w:=⟨rfl,rfl,rfl,Nat.le_refl _,fun _ _ _=>rfl⟩
theorem kN.trans {c:Nat} {w w' w'':World} (h:kN c w w') (k:kN c w' w''):kN c w w'':=
 ⟨k.os.trans h.os,k.tape.trans h.tape,k.output.trans h.output,Nat.le_trans h.size k.size,fun j hj hc=>(k.same j (Nat.lt_of_lt_of_le hj h.size) hc).trans (h.same j hj hc)⟩
theorem kN.alloc (c:Nat) (w:World) (ob:Obj):kN c w (w.alloc ob):=
 ⟨rfl,rfl,rfl,by show _≤(w.heap.push ob).size;rw [Array.size_push];omega,fun j hj _=>by show (w.heap.push ob)[j]?=_;rw [Array.getElem?_push,if_neg (Nat.ne_of_lt hj)]⟩
theorem kN.setChan (w:World) (c cap:Nat) (buf:Array Value) (cl:Bool) (s r:Nat) (tm:Bool):kN c w (w.setChan c cap buf cl s r tm):=
 ⟨rfl,rfl,rfl,by rw [size_setChan];exact Nat.le_refl _,fun j hj hc=>by simp only [World.setChan];rw [Array.getElem?_setIfInBounds_ne (by omega)]⟩
theorem eD (w:World) (ob:Obj) {j:Nat} {x:Obj} (h:w.heap[j]?=some x):(w.alloc ob).heap[j]?=some x:=by
 have:=(Array.getElem?_eq_some_iff.1 h).1
 show (w.heap.push ob)[j]?=_
 rw [Array.getElem?_push,if_neg (Nat.ne_of_lt this),h]
theorem Ba (w:World) (c cap s r:Nat) (x:Value) (l:List Value) (h:w.heap[c]?=some (.chan cap (x::l).toArray true s r false)) :
  Calls Tryz.prog 34 #[.agg #[.chan (some c)]] w fun e w'=>e = .returned (.tuple #[x,.bool true])∧kN c w w'∧w'.heap[c]?=some (.chan cap l.toArray true s (r+1) false):=by
 refine calls_of_loneTo fun cs=>?_
 have e:Frame.enter Tryz.prog 34 #[.agg #[.chan (some c)]] .normal=(base 34).at ⟨#[.agg #[.chan (some c)],undef,undef,undef,undef,undef,undef,undef,undef,undef,undef,undef,undef,undef,undef],[]⟩ [.code (Tryz.f34.body.getD .skip)]:=by
  simp [Frame.enter,Frame.at,Tryz.func34,base,Tryz.f34]
 rw [e]
 refine LoneTo.goes (n:=13) ?_
 simp only [Tryz.f34,Option.getD_some]
 s_c stepG_seq
 s_reg
 s_op
 s_op
 s_op
 s_c stepG_region_end
 s_c stepG_seq
 s_reg
 s_op
 s_op
 s_c stepG_region_end
 s_c stepG_seq
 s_reg
 s_stop
 refine LoneTo.step (step_lone_select_recv_buf (c:=c) (z:=.int .i64 0) (stepG_comm (cases:=#[rcase c (.int .i64 0)]) (blocking:=false) (shape:=.select) (w':=w.alloc (.cells #[.chan (some c)] 100)) rfl rfl (by decide) (by simp [go_sem,execOp,rcase,Act.eval])) (eD w _ h) (by simp)) ?_
 rw [Frame.finish_at]
 walk_nrm
 refine LoneTo.goes (n:=20) ?_
 s_op
 s_op
 s_c stepG_region_end
 s_c stepG_block
 s_cond true
 s_c stepG_seq
 s_reg
 s_op
 s_op
 s_op
 s_op
 s_c stepG_region_end
 s_c stepG_seq
 s_reg
 s_op
 s_op
 s_op
 s_op
 s_c stepG_region_end
 s_c stepG_ret'
 s_stop
 refine LoneTo.done ⟨.returned (.tuple #[x,.bool true]),_,rfl,⟨rfl,(kN.alloc c w _).trans (.setChan _ _ _ _ _ _ _ _),heap_setChan _ _ _ _ _ _ _ _ ?_⟩,rfl,rfl,rfl,rfl,_,Tryz.func34,by simp [results,Tryz.f34,Frame.at]⟩
 exact (Array.getElem?_eq_some_iff.1 (eD w _ h)).1
theorem Bb (w:World) (c cap s r:Nat) (h:w.heap[c]?=some (.chan cap #[] true s r false)) :
  Calls Tryz.prog 34 #[.agg #[.chan (some c)]] w fun e w'=>e = .returned (.tuple #[.int .i64 0,.bool false])∧kN c w w'∧w'.heap[c]?=some (.chan cap #[] true s r false):=by
 refine calls_of_loneTo fun cs=>?_
 have e:Frame.enter Tryz.prog 34 #[.agg #[.chan (some c)]] .normal=(base 34).at ⟨#[.agg #[.chan (some c)],undef,undef,undef,undef,undef,undef,undef,undef,undef,undef,undef,undef,undef,undef],[]⟩ [.code (Tryz.f34.body.getD .skip)]:=by
  simp [Frame.enter,Frame.at,Tryz.func34,base,Tryz.f34]
 rw [e]
 refine LoneTo.goes (n:=13) ?_
 simp only [Tryz.f34,Option.getD_some]
 s_c stepG_seq
 s_reg
 s_op
 s_op
 s_op
 s_c stepG_region_end
 s_c stepG_seq
 s_reg
 s_op
 s_op
 s_c stepG_region_end
 s_c stepG_seq
 s_reg
 s_stop
 refine LoneTo.step (step_lone_select_recv_shut (c:=c) (z:=.int .i64 0) (stepG_comm (cases:=#[rcase c (.int .i64 0)]) (blocking:=false) (shape:=.select) (w':=w.alloc (.cells #[.chan (some c)] 100)) rfl rfl (by decide) (by simp [go_sem,execOp,rcase,Act.eval])) (eD w _ h)) ?_
 rw [Frame.finish_at]
 walk_nrm
 refine LoneTo.goes (n:=20) ?_
 s_op
 s_op
 s_c stepG_region_end
 s_c stepG_block
 s_cond true
 s_c stepG_seq
 s_reg
 s_op
 s_op
 s_op
 s_op
 s_c stepG_region_end
 s_c stepG_seq
 s_reg
 s_op
 s_op
 s_op
 s_op
 s_c stepG_region_end
 s_c stepG_ret'
 s_stop
 exact LoneTo.done ⟨.returned (.tuple #[.int .i64 0,.bool false]),_,rfl,⟨rfl,kN.alloc c w _,eD w _ h⟩,rfl,rfl,rfl,rfl,_,Tryz.func34,by simp [results,Tryz.f34,Frame.at]⟩
open Go.Conc Go.RowKit Go.Bm
theorem MV:∃i,Tryz.prog.info? 3=some i∧i.bytes=8:=by
 have h:(Tryz.prog.info? 3).map (·.bytes)=some 8:=by kernel_rfl
 obtain ⟨i,hi,hb⟩:=Option.map_eq_some_iff.1 h
 exact ⟨i,hi,hb⟩
theorem Yq (w:World) (n:Nat) (hn:n≤1000000):(Instr.makeChan 98 (.int .i64 n)).run Tryz.prog w = .ok (.chan (some w.heap.size)) (w.alloc (.chan n #[] false 0 0 false)):=by
 obtain ⟨i,hi,hb⟩:=MV
 exact run_makeChan (P:=Tryz.prog) (w:=w) Tryz.underlying98 hi .i64 n (by omega) (by rw [hb];omega)
theorem gV (w:World) (ob:Obj):(w.alloc ob).heap[w.heap.size]?=some ob:=by
 show (w.heap.push ob)[w.heap.size]?=_
 rw [Array.getElem?_push,if_pos rfl]
theorem rk {w:World} {ob:Obj} (a:Addr) (h:a.block<w.heap.size):(w.alloc ob).cell? a=w.cell? a:=by
 have e:(w.alloc ob).heap[a.block]?=w.heap[a.block]?:=by
  show (w.heap.push ob)[a.block]?=_
  rw [Array.getElem?_push,if_neg (Nat.ne_of_lt h)]
 simp only [World.cell?,e]
theorem oj {w:World} {c cap:Nat} {buf:Array Value} {cl:Bool} {s r:Nat} {tm:Bool} (a:Addr) (h:a.block≠c):(w.setChan c cap buf cl s r tm).cell? a=w.cell? a:=by
 simp only [World.cell?,World.setChan,Array.getElem?_setIfInBounds_ne (Ne.symm h)]
def Hl:Code:=match Tryz.f33.body with
 | some (.seq _ (.seq _ (.seq _ (.seq (.seq _ (.block _ (.loop x))) _))))=>x
 | _=>.skip
theorem As {Q:Goroutine→World→Prop} (cs:List Frame) (k:List Item) (l:List Int) (c b4 n:Nat) (q:Addr) (hl:l.length=n) (hn:n≤1000000) (KM:b4≠c) (x0 x1 x2 x3 x5 x7 x8 x9 wE wD Al:Value)
  (ad:Option Addr) (cap:Nat) (hq:0<n→ad=some q) (hqc:q.block≠c) :
  ∀(m i:Nat),i+m=n→∀(w:World) (s r:Nat) (x6 yl uL uK yk yj yi yh wP wO wN:Value),
   w.heap[b4]?=some (.cells #[.chan (some c)] 100)→w.heap[c]?=some (.chan n ((l.take i).map (Value.int .i64)).toArray false s r false) →
   (∀j x,l[j]?=some x→w.cell? (q.add j)=some (.int .i64 x)) →
   (∀w' s' (y6 Wt Ws Wr Wq Wp Wo Wn Wm:Value),kN c w w'→w'.heap[b4]?=some (.cells #[.chan (some c)] 100)→w'.heap[c]?=some (.chan n (l.map (Value.int .i64)).toArray false s' r false) →
    LoneTo Tryz.prog Q (Go.Conc.G ((base 33).at ⟨#[x0,x1,x2,x3,.pointer (some ⟨b4,0,none⟩),x5,y6,x7,x8,x9,wE,wD,Al,.slice ad n cap,.int .i64 n,Wt,Ws,Wr,Wq,Wp,Wo,Wn,Wm,wP,wO,wN],[]⟩ k) cs) w') →
   LoneTo Tryz.prog Q (Go.Conc.G ((base 33).at ⟨#[x0,x1,x2,x3,.pointer (some ⟨b4,0,none⟩),x5,x6,x7,x8,x9,wE,wD,Al,.slice ad n cap,.int .i64 n,.int .i64 i,yl,uL,uK,yk,yj,yi,yh,wP,wO,wN],[]⟩ (.code Hl :: .inLoop Hl :: .inBlock 0::k)) cs) w:=by
 intro m
 induction m with
 | zero=>
  intro i hi w s r x6 yl uL uK yk yj yi yh wP wO wN h4 hc hd hK
  have e1:¬((i:Int)<(n:Int)):=by omega
  refine LoneTo.goes (n:=7) ?_
  simp only [Hl,Tryz.f33]
  s_c stepG_seq
  s_reg
  s_op
  s_c stepG_region_end
  s_c stepG_seq
  s_cond false
  s_exit
  s_stop
  refine hK w s _ _ _ _ _ _ _ _ _ (kN.refl c w) h4 ?_
  rw [hc,za (by omega)]
 | succ m ih=>
  intro i hi w s r x6 yl uL uK yk yj yi yh wP wO wN h4 hc hd hK
  have e1:((i:Int)<(n:Int)):=by omega
  obtain rfl:=hq (by omega)
  have fe:i<l.length:=by omega
  have hx:l[i]?=some l[i]:=zD fe
  have oV:=hd i _ hx
  have h4c:w.cell? ⟨b4,0,none⟩=some (.chan (some c)):=by simp [World.cell?,h4]
  have e2:¬((i:Int)<0):=by omega
  have e3:i<n:=by omega
  refine LoneTo.goes (n:=19) ?_
  simp only [Hl,Tryz.f33]
  s_c stepG_seq
  s_reg
  s_op
  s_c stepG_region_end
  s_c stepG_seq
  s_cond true
  s_c stepG_skip
  s_c stepG_seq
  s_c stepG_block
  s_c stepG_seq
  s_reg
  s_op
  s_op
  s_op
  s_c stepG_region_end
  s_reg
  s_op
  s_op
  s_op
  s_stop
  refine LoneTo.step (step_lone_send_room (c:=c) (cap:=n) (buf:=((l.take i).map (Value.int .i64)).toArray) (s:=s) (r:=r) (tm:=false) (stepG_comm (cases:=#[scase c (.int .i64 l[i]) (.tuple #[])]) (blocking:=true) (shape:=.send) (w':=w) rfl rfl (by decide) (by simp [execOp,scase,Act.eval])) hc (by simp;omega)) ?_
  rw [Frame.finish_at]
  walk_nrm
  refine LoneTo.goes (n:=7) ?_
  s_c stepG_region_end
  s_c stepG_inBlock
  s_reg
  s_op
  s_op
  s_c stepG_region_end
  s_c stepG_inLoop
  s_stop
  have hm:List.take i (List.map (Value.int .i64) l)++[Value.int .i64 l[i]]=List.take (i+1) (List.map (Value.int .i64) l):=by
   rw [List.take_add_one,zL,hx];rfl
  rw [hm,IntKind.wrap_i64,show (↑i+1+9223372036854775808)%18446744073709551616-9223372036854775808=((i+1:Nat):Int) by omega]
  have F8:c<w.heap.size:=(Array.getElem?_eq_some_iff.1 hc).1
  have nr:=kN.setChan w c n (List.take (i+1) (List.map (Value.int .i64) l)).toArray false (s+1) r false
  refine ih (i+1) (by omega) _ (s+1) r _ _ _ _ _ _ _ _ _ _ _ ?_ ?_ ?_ ?_
  ·rw [nr.same b4 (Array.getElem?_eq_some_iff.1 h4).1 KM];exact h4
  ·rw [List.map_take];exact heap_setChan _ _ _ _ _ _ _ _ F8
  ·intro j x hj
   rw [oj _ (show (q.add j).block≠c by unfold Addr.add;split<;>exact hqc)]
   exact hd j x hj
  ·intro w' s' y6 Wt Ws Wr Wq Wp Wo Wn Wm k1 k2 k3
   exact hK w' s' y6 Wt Ws Wr Wq Wp Wo Wn Wm (nr.trans k1) k2 k3
theorem wm {D:Type} {S:D→Hp} {d:D} {p:A} {l:List Int} {full:Bool} (hL:PC Tryz.prog 17 [p] (S d) (S d) (.tl (.int .i64) full l)) (hn:l.length≤1000000)
  {S0:Hp} {g0 g:Bm.G} {w0 w:World} {vw:Value} (k:KK S0 g0 w0 (S d) g w) (hv:V g p vw) :
  Calls Tryz.prog 33 #[vw] w fun e w'=>∃(c:Nat) (g':Bm.G) (s:Nat),e = .returned (.agg #[.chan (some c)])∧KK S0 g0 w0 (S d) g' w'∧Le g g'∧Raw (S d) g' w0 w' c ∧
   w'.heap[c]?=some (.chan l.length (l.map (Value.int .i64)).toArray true s 0 false)∧w.heap.size≤c∧(∀b,Raw (S d) g w0 w b→Raw (S d) g' w0 w' b∧w'.heap[b]?=w.heap[b]?):=by
 refine calls_of_loneTo fun cs=>?_
 have e:Frame.enter Tryz.prog 33 #[vw] .normal=(base 33).at ⟨#[vw,undef,undef,undef,undef,undef,undef,undef,undef,undef,undef,undef,undef,undef,undef,undef,undef,undef,undef,undef,undef,undef,undef,undef,undef,undef],[]⟩ [.code (Tryz.f33.body.getD .skip)]:=by
  simp [Frame.enter,Frame.at,Tryz.func33,base,Tryz.f33]
 rw [e]
 refine LoneTo.goes (n:=7) ?_
 simp only [Tryz.f33,Option.getD_some]
 s_c stepG_seq
 s_reg
 s_op
 s_c stepG_region_end
 s_c stepG_seq
 s_reg
 s_op
 s_stop
 obtain ⟨k1,r1,r2⟩:=k.alloc (.cells #[.chan none] 100)
 refine gJ rfl rfl (by decide) rfl Tryz.func17 (by kernel_rfl) rfl (vs:=[vw].toArray) (by simp [Act.eval]) (KK.call hL k1 rfl (fun i p' v e1 e2=>by
  cases i with
  | zero=>cases e1;cases e2;exact hv
  | succ i=>cases e1)) (fun e w' ⟨v,_,h,_⟩=>⟨v,h⟩) ?_
 rintro v w2 ⟨v',g2,he,xv,k2,hle,kY⟩
 cases he
 obtain ⟨ad,cap,rfl,hq⟩:=Cr k2.inv xv
 have h2:w2.heap[w.heap.size]?=some (.cells #[.chan none] 100):=by rw [(kY _ r1).2];exact gV w _
 have hb2:w.heap.size<w2.heap.size:=(kY _ r1).1.lt
 generalize NH:w.heap.size=b2 at h2 hb2
 walk_nrm
 have hmc:=Yq w2 l.length hn
 refine LoneTo.goes (n:=20) ?_
 s_op
 s_c stepG_region_end
 s_c stepG_seq
 s_reg
 s_op
 s_op
 s_op
 s_op
 s_op
 s_op
 s_c stepG_region_end
 s_c stepG_seq
 s_c stepG_seq
 s_reg
 s_op
 s_op
 s_op
 s_c stepG_region_end
 s_c stepG_block
 s_c stepG_loop
 s_stop
 have qx:∃q:Addr,(0<l.length→ad=some q)∧q.block≠w2.heap.size∧∀j x,l[j]?=some x→((w2.alloc (.chan l.length #[] false 0 0 false)).alloc (.cells #[.chan (some w2.heap.size)] 100)).cell? (q.add j)=some (.int .i64 x):=by
  cases l with
  | nil=>exact ⟨⟨w2.heap.size+1,0,none⟩,fun h=>absurd h (Nat.lt_irrefl 0),Nat.succ_ne_self _,fun j x h=>by simp at h⟩
  | cons x l=>
   obtain ⟨q,e,h⟩:=hq (Nat.succ_pos _)
   have hb:q.block<w2.heap.size:=by
    have h0:=h 0 x rfl
    cases e1:w2.heap[q.block]? with
    | none=>rw [show q.add 0=q from rfl] at h0;simp [World.cell?,e1] at h0
    | some ob=>exact (Array.getElem?_eq_some_iff.1 e1).1
   refine ⟨q,fun _=>e,Nat.ne_of_lt hb,fun j y hj=>?_⟩
   have e2:(q.add j).block=q.block:=by unfold Addr.add;split<;>rfl
   rw [rk _ (by rw [e2];exact Nat.lt_of_lt_of_le hb (kN.alloc 0 w2 _).size),rk _ (by rw [e2];exact hb)]
   exact h j y hj
 obtain ⟨q,Nw,D5,hq3⟩:=qx
 obtain ⟨k3,rc,t3⟩:=k2.alloc (.chan l.length #[] false 0 0 false)
 have NF:=gV w2 (.chan l.length #[] false 0 0 false)
 generalize hw3:w2.alloc (.chan l.length #[] false 0 0 false)=w3 at *
 have YT:w3.heap.size=w2.heap.size+1:=by rw [←hw3];exact Array.size_push ..
 obtain ⟨k4,r4,t4⟩:=k3.alloc (.cells #[.chan (some w2.heap.size)] 100)
 have hb4:=gV w3 (.cells #[.chan (some w2.heap.size)] 100)
 have HK:=eD w3 (.cells #[.chan (some w2.heap.size)] 100) NF
 rw [YT] at r4 hb4
 generalize w3.alloc (.cells #[.chan (some w2.heap.size)] 100)=w4 at *
 have CX:=(t4 _ rc).1
 have bH:=(t4 _ (t3 _ (kY _ r1).1).1).1
 have h24:w4.heap[b2]?=some (.cells #[.chan none] 100):=by rw [←NH,(t4 _ (t3 _ (kY _ r1).1).1).2,(t3 _ (kY _ r1).1).2,NH];exact h2
 refine As cs _ l w2.heap.size (w2.heap.size+1) l.length q rfl hn (Nat.succ_ne_self _) _ _ _ _ _ _ _ _ _ _ _ ad cap Nw D5 l.length 0 (Nat.zero_add _) w4 0 0 _ _ _ _ _ _ _ _ _ _ _ hb4 HK hq3 ?_
 intro w5 s5 y6 Wt Ws Wr Wq Wp Wo Wn Wm nr hb5 ND
 obtain ⟨k5,t5⟩:=(show KK S0 g0 w0 (S d) g2 w5∧(∀b,Raw (S d) g2 w0 w4 b→Raw (S d) g2 w0 w5 b) from
  ⟨k4.raw CX.ge CX.ow CX.mem CX.lp nr.os nr.tape nr.output nr.size (fun j h1 h2=>nr.same j h1 h2),fun b h=>⟨h.ge,Nat.lt_of_lt_of_le h.lt nr.size,h.ow,h.mem,h.lp⟩⟩)
 have h5c:w5.cell? ⟨w2.heap.size+1,0,none⟩=some (.chan (some w2.heap.size)):=by simp [World.cell?,hb5]
 have h25:w5.heap[b2]?=some (.cells #[.chan none] 100):=by rw [nr.same b2 (NH▸bH.lt) (by omega)];exact h24
 generalize Zw:w2.heap.size=c at *
 have pU:=run_close_open (P:=Tryz.prog) (w:=w5) #[98] 0 ND
 refine LoneTo.goes (n:=5) ?_
 s_c stepG_seq
 s_reg
 s_op
 s_op
 s_op
 s_stop
 have nc:=kN.setChan w5 c l.length (List.map (Value.int .i64) l).toArray true s5 0 false
 have hc6:=heap_setChan w5 c l.length (List.map (Value.int .i64) l).toArray true s5 0 false (Array.getElem?_eq_some_iff.1 ND).1
 have Sa:=t5 _ CX
 have r52:=t5 _ bH
 obtain ⟨k6,t6⟩:=(show KK S0 g0 w0 (S d) g2 (w5.setChan c l.length (List.map (Value.int .i64) l).toArray true s5 0 false)∧(∀b,Raw (S d) g2 w0 w5 b→Raw (S d) g2 w0 (w5.setChan c l.length (List.map (Value.int .i64) l).toArray true s5 0 false) b) from
  ⟨k5.raw Sa.ge Sa.ow Sa.mem Sa.lp nc.os nc.tape nc.output nc.size (fun j h1 h2=>nc.same j h1 h2),fun b h=>⟨h.ge,Nat.lt_of_lt_of_le h.lt nc.size,h.ow,h.mem,h.lp⟩⟩)
 have h6c:(w5.setChan c l.length (List.map (Value.int .i64) l).toArray true s5 0 false).cell? ⟨c+1,0,none⟩=some (.chan (some c)):=by rw [oj _ (Nat.succ_ne_self c)];exact h5c
 have TB:(w5.setChan c l.length (List.map (Value.int .i64) l).toArray true s5 0 false).heap[b2]?=some (.cells #[.chan none] 100):=by rw [nc.same b2 (NH▸r52.lt) (by omega)];exact h25
 have agD:(w5.setChan c l.length (List.map (Value.int .i64) l).toArray true s5 0 false).cell? ⟨b2,0,none⟩=some (.chan none):=by simp [World.cell?,TB]
 have agC:(w5.setChan c l.length (List.map (Value.int .i64) l).toArray true s5 0 false).frozen? ⟨b2,0,none⟩=false:=by simp [World.frozen?,TB]
 change LoneTo Tryz.prog _ (Conc.G _ cs) (w5.setChan c l.length (List.map (Value.int .i64) l).toArray true s5 0 false)
 generalize hw6:w5.setChan c l.length (List.map (Value.int .i64) l).toArray true s5 0 false=w6 at *
 refine LoneTo.goes (n:=7) ?_
 s_c stepG_region_end
 s_c stepG_seq
 s_reg
 s_op
 s_op
 s_c stepG_region_end
 s_c stepG_ret'
 s_stop
 have h7:(w6.setCell ⟨b2,0,none⟩ (.chan (some c)))={ w6 with heap:=w6.heap.setIfInBounds b2 (.cells #[.chan (some c)] 100) }:=by
  unfold World.setCell
  congr 1
  apply Array.ext_getElem?
  intro j
  rw [Array.getElem?_modify,Array.getElem?_setIfInBounds]
  by_cases hj:b2=j
  ·subst hj
   rw [if_pos rfl,if_pos rfl,if_pos (Array.getElem?_eq_some_iff.1 TB).1,TB]
   rfl
  ·rw [if_neg hj,if_neg hj]
 rw [h7]
 have e7:∀j,j≠b2→(w6.heap.setIfInBounds b2 (.cells #[.chan (some c)] 100))[j]?=w6.heap[j]?:=fun j hj=>by rw [Array.getElem?_setIfInBounds_ne (Ne.symm hj)]
 obtain ⟨k7,t7⟩:=k6.change (w':={ w6 with heap:=w6.heap.setIfInBounds b2 (.cells #[.chan (some c)] 100) }) (NH▸t6 _ r52) rfl rfl rfl (Array.size_setIfInBounds ..) e7
 have hl7:({ w6 with heap:=w6.heap.setIfInBounds b2 (.cells #[.chan (some c)] 100) }:World).cell? ⟨b2,0,none⟩=some (.chan (some c)):=by
  have:b2<w6.heap.size:=(Array.getElem?_eq_some_iff.1 TB).1
  simp [World.cell?,this]
 refine LoneTo.done ⟨.returned (.agg #[.chan (some c)]),_,rfl,⟨c,g2,s5,rfl,k7,hle,t7 _ (t6 _ Sa),?_,?_,?_⟩,rfl,rfl,rfl,rfl,_,Tryz.func33,?_⟩
 ·show (w6.heap.setIfInBounds b2 _)[c]?=_
  rw [e7 c (by omega)];exact hc6
 ·omega
 ·intro b hb
  refine ⟨t7 _ (t6 _ (t5 _ (t4 _ (t3 _ (kY _ (r2 _ hb).1).1).1).1)),?_⟩
  have fe:=hb.lt
  rw [NH] at fe
  show (w6.heap.setIfInBounds b2 _)[b]?=_
  rw [e7 b (by omega),nc.same b (by have:=(t5 _ (t4 _ (t3 _ (kY _ (r2 _ hb).1).1).1).1).lt;exact this) (by omega),nr.same b (t4 _ (t3 _ (kY _ (r2 _ hb).1).1).1).1.lt (by omega),(t4 _ (t3 _ (kY _ (r2 _ hb).1).1).1).2,(t3 _ (kY _ (r2 _ hb).1).1).2,(kY _ (r2 _ hb).1).2,(r2 _ hb).2]
 ·simp [go_sem,results,Tryz.f33,Frame.at,hl7]
open Go.Conc Go.RowKit Go.Bm
def FX:Code:=match Tryz.f12.body with
 | some (.seq _ (.seq _ (.seq _ (.seq (.block _ (.loop x)) _))))=>x
 | _=>.skip
def SG:Code:=match FX with
 | .seq _ (.block _ (.seq _ (.seq _ (.block _ (.loop x)))))=>x
 | _=>.skip
def Xj:Code:=match Tryz.f12.body with
 | some (.seq _ (.seq _ (.seq _ (.seq _ x))))=>x
 | _=>.skip
section
variable {D α β:Type} {S:D→Hp} {S0:Hp} {g0:Bm.G} {w0:World}
def FF (S:D→Hp) (S0:Hp) (g0:Bm.G) (w0:World) (cs:List Frame) (y:(Int×(Int×Unit))×D) (g':Goroutine) (w':World):Prop:=
 ∃e fr,g'=Conc.G fr cs∧(∃v gg,e = .returned v∧V gg (.iM [.v (.int .i64 y.1.1),.v (.int .i64 y.1.2.1)]) v∧KK S0 g0 w0 (S y.2) gg w')∧fr.fn=12∧fr.leaving Tryz.prog w' e
theorem uc {cs:List Frame} {k:List Item} {y:(Int×(Int×Unit))×D} {g:Bm.G} {w:World} (m er:Int) (hm:y.1.1=m) (he:y.1.2.1=er) (kk:KK S0 g0 w0 (S y.2) g w) (x0 x1 x2 x3 x6 x7 x8 x9 wE wD Al Ak FM FL yl uL uK yk yj yi yh wP wO wN Aj Ai Ah Ag Af Ae Ad FK FJ Ac Ab Aa z_:Value) :
  LoneTo Tryz.prog (FF S S0 g0 w0 cs y) (Conc.G ((base 12).at ⟨#[x0,x1,x2,x3,.int .i64 m,.int .i64 er,x6,x7,x8,x9,wE,wD,Al,Ak,FM,FL,yl,uL,uK,yk,yj,yi,yh,wP,wO,wN,Aj,Ai,Ah,Ag,Af,Ae,Ad,FK,FJ,Ac,Ab,Aa,z_],[]⟩ (.code .ret::k)) cs) w:=by
 subst hm he
 refine LoneTo.goes (n:=1) ?_
 s_c stepG_ret'
 s_stop
 refine LoneTo.done ⟨.returned (.tuple #[.int .i64 y.1.1,.int .i64 y.1.2.1]),_,rfl,⟨_,g,rfl,?_,kk⟩,rfl,rfl,rfl,rfl,_,Tryz.func12,by simp [results,Tryz.f12,Frame.at]⟩
 refine .iM _ _ rfl (fun i c x e1 e2=>?_)
 match i with
 | 0=>simp at e1 e2;subst e1 e2;exact .v _
 | 1=>simp at e1 e2;subst e1 e2;exact .v _
 | i+2=>simp at e1
def vL:List Int→Value
 | []=>.int .i64 0
 | t::_=>.int .i64 t
theorem qH {w:World} {c cap s r:Nat} {L:List Int} (h:w.heap[c]?=some (.chan cap (L.map (Value.int .i64)).toArray true s r false)) :
  Calls Tryz.prog 34 #[.agg #[.chan (some c)]] w fun e w'=>e = .returned (.tuple #[vL L,.bool (!L.isEmpty)])∧kN c w w'∧∃r',w'.heap[c]?=some (.chan cap ((L.drop 1).map (Value.int .i64)).toArray true s r' false):=by
 cases L with
 | nil=>exact (Bb w c cap s r h).mono fun e w' k=>⟨k.1,k.2.1,r,k.2.2⟩
 | cons t L=>exact (Ba w c cap s r (.int .i64 t) (L.map (Value.int .i64)) h).mono fun e w' k=>⟨k.1,k.2.1,r+1,k.2.2⟩
theorem Hs {StepF:Int→D→Option (β×D)} {p:A} {cs:List Frame} {y:(Int×(Int×Unit))×D} {vw:Value} {most:Int} (hS:∀t d q,StepF t d=some q→∃r,PC Tryz.prog 18 [p,.v (.int .i64 t)] (S d) (S q.2) r)
  {L0:Int×D→Option ((Int×(Int×Unit))×D)}
  (hO:∀s,L0 s=some y→∀g w,KK S0 g0 w0 (S s.2) g w→V g p vw→∀x2 x3 x4 x5 x7 x8 x9 wE wD Al Ak FM FL yl uL uK yk yj yi yh wP wO wN Aj Ai Ah Ag Af Ae Ad FK FJ Ac Ab Aa z_:Value,LoneTo Tryz.prog (FF S S0 g0 w0 cs y) (Conc.G ((base 12).at ⟨#[vw,.int .i64 most,x2,x3,x4,x5,.int .i64 s.1,x7,x8,x9,wE,wD,Al,Ak,FM,FL,yl,uL,uK,yk,yj,yi,yh,wP,wO,wN,Aj,Ai,Ah,Ag,Af,Ae,Ad,FK,FJ,Ac,Ab,Aa,z_],[]⟩ [.code FX,.inLoop FX,.inBlock 0,.code Xj]) cs) w) :
  ∀(L:List Int) (s:Int×D),nL (fun t s k=>br (af s.1 most) (some ((s.1,(3,())),s.2)) (bd (StepF t s.2) (fun q=>k (ae .i64 s.1 1,q.2)))) L s L0=some y →
   ∀g w,KK S0 g0 w0 (S s.2) g w→V g p vw→∀(c b7 cap s' r':Nat),Raw (S s.2) g w0 w c→Raw (S s.2) g w0 w b7→b7≠c→w.heap[b7]?=some (.cells #[.chan (some c)] 100)→w.heap[c]?=some (.chan cap ((L.drop 1).map (Value.int .i64)).toArray true s' r' false) →
   ∀x2 x3 x4 x5 wE wD Al Ak FM FL yl uL uK yk yj yi yh wP wO wN Aj Ai Ah Ag Af Ae Ad FK FJ Ac Ab Aa z_:Value,LoneTo Tryz.prog (FF S S0 g0 w0 cs y) (Conc.G ((base 12).at ⟨#[vw,.int .i64 most,x2,x3,x4,x5,.int .i64 s.1,.pointer (some ⟨b7,0,none⟩),(vL L),.bool (!L.isEmpty),wE,wD,Al,Ak,FM,FL,yl,uL,uK,yk,yj,yi,yh,wP,wO,wN,Aj,Ai,Ah,Ag,Af,Ae,Ad,FK,FJ,Ac,Ab,Aa,z_],[]⟩ [.code SG,.inLoop SG,.inBlock 2,.inBlock 1,.inLoop FX,.inBlock 0,.code Xj]) cs) w:=by
 intro L
 induction L with
 | nil=>
  intro s hr g w kk hv c b7 cap s' r' rc r7 KM h7 hc x2 x3 x4 x5 wE wD Al Ak FM FL yl uL uK yk yj yi yh wP wO wN Aj Ai Ah Ag Af Ae Ad FK FJ Ac Ab Aa z_
  have hk:=hO s hr g w kk hv
  clear hO
  refine LoneTo.goes (n:=9) ?_
  simp only [SG,FX,Tryz.f12,vL,List.isEmpty,Bool.not_true,Bool.not_false]
  s_c stepG_seq
  s_c stepG_seq
  s_reg
  s_op
  s_c stepG_region_end
  s_cond false
  s_exit
  s_c stepG_inBlock
  s_c stepG_inLoop
  s_stop
  exact hk _ _ _ _ _ _ _ _ _ _ _ _ _ _ _ _ _ _ _ _ _ _ _ _ _ _ _ _ _ _ _ _ _ _ _ _
 | cons t L ih=>
  intro s hr g w kk hv c b7 cap s' r' rc r7 KM h7 hc x2 x3 x4 x5 wE wD Al Ak FM FL yl uL uK yk yj yi yh wP wO wN Aj Ai Ah Ag Af Ae Ad FK FJ Ac Ab Aa z_
  have hr:br (af s.1 most) (some ((s.1,(3,())),s.2)) (bd (StepF t s.2) (fun q=>nL (fun t s k=>br (af s.1 most) (some ((s.1,(3,())),s.2)) (bd (StepF t s.2) (fun q=>k (ae .i64 s.1 1,q.2)))) L (ae .i64 s.1 1,q.2) L0))=some y:=hr
  rcases kh hr with ⟨he,sB⟩ | ⟨he,sB⟩
  ·have he:s.1=most:=of_decide_eq_true he
   clear ih hO hr
   subst he
   cases sB
   refine LoneTo.goes (n:=22) ?_
   simp only [SG,FX,Tryz.f12,vL,List.isEmpty,Bool.not_true,Bool.not_false]
   s_c stepG_seq
   s_c stepG_seq
   s_reg
   s_op
   s_c stepG_region_end
   s_cond true
   s_c stepG_skip
   s_c stepG_seq
   s_c stepG_block
   s_c stepG_seq
   s_c stepG_seq
   s_reg
   s_op
   s_op
   s_op
   s_c stepG_region_end
   s_cond true
   s_c stepG_seq
   s_reg
   s_op
   s_op
   s_op
   s_stop
   refine LoneTo.goes (n:=1) ?_
   s_c stepG_region_end
   s_stop
   exact uc s.1 3 rfl rfl kk _ _ _ _ _ _ _ _ _ _ _ _ _ _ _ _ _ _ _ _ _ _ _ _ _ _ _ _ _ _ _ _ _ _ _ _ _
  ·have he:¬s.1=most:=of_decide_eq_false he
   have Zo:(s.1 == most)=false:=by simp [he]
   obtain ⟨q,hq,D4⟩:=rp sB
   obtain ⟨r,F5⟩:=hS _ _ _ hq
   have ih:=ih _ D4
   clear hO
   refine LoneTo.goes (n:=22) ?_
   simp only [SG,FX,Tryz.f12,vL,List.isEmpty,Bool.not_true,Bool.not_false]
   s_c stepG_seq
   s_c stepG_seq
   s_reg
   s_op
   s_c stepG_region_end
   s_cond true
   s_c stepG_skip
   s_c stepG_seq
   s_c stepG_block
   s_c stepG_seq
   s_c stepG_seq
   s_reg
   s_op
   s_op
   s_op
   s_c stepG_region_end
   s_cond false
   s_c stepG_skip
   s_c stepG_seq
   s_reg
   s_op
   s_op
   s_stop
   refine gJ rfl rfl (by decide) rfl Tryz.func18 (by kernel_rfl) rfl (vs:=[vw,.int .i64 t].toArray) (by simp [Act.eval]) (KK.call F5 kk rfl (fun i p' v e1 e2=>by
    match i with
    | 0=>cases e1;cases e2;exact hv
    | 1=>cases e1;cases e2;exact .v _
    | i+2=>cases e1)) (fun e w' ⟨v,_,h,_⟩=>⟨v,h⟩) ?_
   rintro v w2 ⟨v',g2,Mi,xv,k2,hle,kY⟩
   cases Mi
   have r72:=(kY _ r7).1
   have R_:=(kY _ rc).1
   have h72:w2.heap[b7]?=some (.cells #[.chan (some c)] 100):=by rw [(kY _ r7).2];exact h7
   have Tq:w2.heap[c]?=some (.chan cap (L.map (Value.int .i64)).toArray true s' r' false):=by rw [(kY _ rc).2];exact hc
   have agw:w2.cell? ⟨b7,0,none⟩=some (.chan (some c)):=by simp [World.cell?,h72]
   have xv:=hv.mono hle
   clear kY hv kk hr sB D4 hq h7 hc he Zo
   walk_nrm
   refine LoneTo.goes (n:=8) ?_
   s_c stepG_region_end
   s_reg
   s_op
   s_op
   s_op
   s_c stepG_region_end
   s_c stepG_inBlock
   s_reg
   s_stop
   refine LoneTo.goes (n:=1) ?_
   s_op
   s_stop
   refine gJ rfl rfl (by decide) rfl Tryz.func34 (by kernel_rfl) rfl (vs:=#[.agg #[.chan (some c)]]) (by simp [Act.eval]) (qH Tq) (fun e w' h=>⟨_,h.1⟩) ?_
   rintro v w3 ⟨he3,nr,r3,NF⟩
   cases he3
   have k3:=k2.raw R_.ge R_.ow R_.mem R_.lp nr.os nr.tape nr.output nr.size (fun j h1 h2=>nr.same j h1 h2)
   have rr:∀b,Raw (S q.2) g2 w0 w2 b→Raw (S q.2) g2 w0 w3 b:=fun b h=>⟨h.ge,Nat.lt_of_lt_of_le h.lt nr.size,h.ow,h.mem,h.lp⟩
   have h73:w3.heap[b7]?=some (.cells #[.chan (some c)] 100):=by rw [nr.same b7 r72.lt KM];exact h72
   have ih:=ih g2 w3 k3 xv c b7 cap s' r3 (rr _ R_) (rr _ r72) KM h73 NF
   walk_nrm
   refine LoneTo.goes (n:=7) ?_
   s_op
   s_op
   s_op
   s_op
   s_op
   s_c stepG_region_end
   s_c stepG_inLoop
   s_stop
   exact ih _ _ _ _ _ _ _ _ _ _ _ _ _ _ _ _ _ _ _ _ _ _ _ _ _ _ _ _ _ _ _ _ _
theorem Dh {LiveF:D→Option ((List Int×Unit)×α)} {StepF:Int→D→Option (β×D)} {p:A} {cs:List Frame} {y:(Int×(Int×Unit))×D} {vw:Value} {most:Int} (hS:∀t d q,StepF t d=some q→∃r,PC Tryz.prog 18 [p,.v (.int .i64 t)] (S d) (S q.2) r)
  (hL:∀d q,LiveF d=some q→PC Tryz.prog 17 [p] (S d) (S d) (.tl (.int .i64) false q.1.1)) :
  ∀(n:Nat) (s:Int×D),iter (o5 LiveF StepF most) n s=some y→∀g w,KK S0 g0 w0 (S s.2) g w→V g p vw →
   ∀x2 x3 x4 x5 x7 x8 x9 wE wD Al Ak FM FL yl uL uK yk yj yi yh wP wO wN Aj Ai Ah Ag Af Ae Ad FK FJ Ac Ab Aa z_:Value,LoneTo Tryz.prog (FF S S0 g0 w0 cs y) (Conc.G ((base 12).at ⟨#[vw,.int .i64 most,x2,x3,x4,x5,.int .i64 s.1,x7,x8,x9,wE,wD,Al,Ak,FM,FL,yl,uL,uK,yk,yj,yi,yh,wP,wO,wN,Aj,Ai,Ah,Ag,Af,Ae,Ad,FK,FJ,Ac,Ab,Aa,z_],[]⟩ [.code FX,.inLoop FX,.inBlock 0,.code Xj]) cs) w:=by
 intro n
 induction n with
 | zero=>intro s hr;cases hr
 | succ n ihn=>
  intro s hr g w kk hv x2 x3 x4 x5 x7 x8 x9 wE wD Al Ak FM FL yl uL uK yk yj yi yh wP wO wN Aj Ai Ah Ag Af Ae Ad FK FJ Ac Ab Aa z_
  obtain ⟨q,hq,sB⟩:=rp (show o5 LiveF StepF most (iter (o5 LiveF StepF most) n) s=some y from hr)
  have wI:=hL _ _ hq
  obtain ⟨⟨l,u⟩,a⟩:=q
  have wI:PC Tryz.prog 17 [p] (S s.2) (S s.2) (.tl (.int .i64) false l):=wI
  have sB:br (aX 0 (zN (len l))) (br (cW (zN (len l)) 1000000) (nL (fun t s k=>br (af s.1 most) (some ((s.1,(3,())),s.2)) (bd (StepF t s.2) (fun q=>k (ae .i64 s.1 1,q.2)))) l s (iter (o5 LiveF StepF most) n)) none) (some ((s.1,(0,())),s.2))=some y:=sB
  clear hr hq
  refine LoneTo.goes (n:=4) ?_
  simp only [FX,Tryz.f12]
  s_c stepG_seq
  s_c stepG_seq
  s_reg
  s_op
  s_stop
  refine gJ rfl rfl (by decide) rfl Tryz.func17 (by kernel_rfl) rfl (vs:=[vw].toArray) (by simp [Act.eval]) (KK.call wI kk rfl (fun i p' v e1 e2=>by
   match i with
   | 0=>cases e1;cases e2;exact hv
   | i+1=>cases e1)) (fun e w' ⟨v,_,h,_⟩=>⟨v,h⟩) ?_
  rintro v w2 ⟨v',g2,Mi,xv,k2,hle,kY⟩
  cases Mi
  obtain ⟨ad,cap,rfl,_⟩:=Cr k2.inv xv
  have WY:=hv.mono hle
  clear kY hv kk
  walk_nrm
  rcases kh sB with ⟨hc,D4⟩ | ⟨hc,D4⟩
  ·have hc:(0:Int)<(l.length:Int):=of_decide_eq_true hc
   obtain ⟨hb,YX⟩ | ⟨_,YX⟩:=kh D4
   ·have hb:(l.length:Int)≤1000000:=of_decide_eq_true hb
    have HF:=hc
    clear sB D4
    have hlen:0<l.length:=by omega
    refine LoneTo.goes (n:=9) ?_
    s_op
    s_op
    s_c stepG_region_end
    s_cond true
    s_c stepG_skip
    s_c stepG_block
    s_c stepG_seq
    s_reg
    s_op
    s_stop
    refine gJ rfl rfl (by decide) rfl Tryz.func33 (by kernel_rfl) rfl (vs:=#[vw]) (by simp [Act.eval]) (wm wI (by omega) k2 WY) (fun e w' ⟨_,_,_,h,_⟩=>⟨_,h⟩) ?_
    rintro v w3 ⟨c,g3,s3,Mi,k3,Y6,rc,Zw,_,_⟩
    cases Mi
    obtain ⟨k4,r7,t4⟩:=k3.alloc (.cells #[.chan (some c)] 100)
    have h7:=gV w3 (.cells #[.chan (some c)] 100)
    have HK:=eD w3 (.cells #[.chan (some c)] 100) Zw
    have KM:w3.heap.size≠c:=by have:=rc.lt;omega
    walk_nrm
    refine LoneTo.goes (n:=7) ?_
    s_op
    s_op
    s_c stepG_region_end
    s_c stepG_seq
    s_reg
    s_stop
    have nr7:w3.heap.size=w3.heap.size:=rfl
    have CX:=(t4 _ rc).1
    clear t4 Zw
    generalize w3.alloc (.cells #[.chan (some c)] 100)=w4 at *
    generalize w3.heap.size=b7 at *
    have h7c:w4.cell? ⟨b7,0,none⟩=some (.chan (some c)):=by simp [World.cell?,h7]
    refine LoneTo.goes (n:=1) ?_
    s_op
    s_stop
    refine gJ rfl rfl (by decide) rfl Tryz.func34 (by kernel_rfl) rfl (vs:=#[.agg #[.chan (some c)]]) (by simp [Act.eval]) (qH HK) (fun e w' h=>⟨_,h.1⟩) ?_
    rintro v w5 ⟨he5,nr,r5,ND⟩
    cases he5
    have k5:=k4.raw CX.ge CX.ow CX.mem CX.lp nr.os nr.tape nr.output nr.size (fun j h1 h2=>nr.same j h1 h2)
    have rr:∀b,Raw (S s.2) g3 w0 w4 b→Raw (S s.2) g3 w0 w5 b:=fun b h=>⟨h.ge,Nat.lt_of_lt_of_le h.lt nr.size,h.ow,h.mem,h.lp⟩
    have h75:w5.heap[b7]?=some (.cells #[.chan (some c)] 100):=by rw [nr.same b7 r7.lt KM];exact h7
    have ih:=Hs (p:=p) (cs:=cs) (y:=y) (most:=most) hS ihn l s YX g3 w5 k5 (WY.mono Y6) c b7 _ _ _ (rr _ CX) (rr _ r7) KM h75 ND
    walk_nrm
    refine LoneTo.goes (n:=8) ?_
    s_op
    s_op
    s_op
    s_op
    s_op
    s_c stepG_region_end
    s_c stepG_block
    s_c stepG_loop
    s_stop
    exact ih _ _ _ _ _ _ _ _ _ _ _ _ _ _ _ _ _ _ _ _ _ _ _ _ _ _ _ _ _ _ _ _ _
   ·cases YX
  ·have hc:¬(0:Int)<(l.length:Int):=of_decide_eq_false hc
   cases D4
   clear ihn sB
   have hlen:¬0<l.length:=by omega
   refine LoneTo.goes (n:=5) ?_
   s_op
   s_op
   s_c stepG_region_end
   s_cond false
   s_exit
   s_stop
   refine LoneTo.goes (n:=7) ?_
   simp only [Xj,Tryz.f12]
   s_c stepG_seq
   s_reg
   s_op
   s_op
   s_op
   s_c stepG_region_end
   s_stop
   exact uc s.1 0 rfl rfl k2 _ _ _ _ _ _ _ _ _ _ _ _ _ _ _ _ _ _ _ _ _ _ _ _ _ _ _ _ _ _ _ _ _ _ _ _ _
theorem ES {LiveF:D→Option ((List Int×Unit)×α)} {StepF:Int→D→Option (β×D)} {p:A} (hS:∀t d q,StepF t d=some q→∃r,PC Tryz.prog 18 [p,.v (.int .i64 t)] (S d) (S q.2) r)
  (hL:∀d q,LiveF d=some q→PC Tryz.prog 17 [p] (S d) (S d) (.tl (.int .i64) false q.1.1)) (most:Int) (d:D) (y:(Int×(Int×Unit))×D) (hy:ET LiveF StepF most d=some y) :
  PC Tryz.prog 12 [p,.v (.int .i64 most)] (S d) (S y.2) (.iM [.v (.int .i64 y.1.1),.v (.int .i64 y.1.2.1)]):=by
 intro g w vs hI hl hv
 match vs,hl with
 | [vw,vm],_=>
 have WY:V g p vw:=hv 0 p vw rfl rfl
 have hvm:V g (.v (.int .i64 most)) vm:=hv 1 _ vm rfl rfl
 cases hvm
 have key:Calls Tryz.prog 12 #[vw,.int .i64 most] w (fun e w'=>∃v gg,e = .returned v∧V gg (.iM [.v (.int .i64 y.1.1),.v (.int .i64 y.1.2.1)]) v∧KK (S d) g w (S y.2) gg w'):=by
  refine calls_of_loneTo (fun cs=>?_) (fun w' ⟨v,_,h,_⟩=>by cases h)
  have e:Frame.enter Tryz.prog 12 #[vw,.int .i64 most] .normal=(base 12).at ⟨#[vw,.int .i64 most,undef,undef,undef,undef,undef,undef,undef,undef,undef,undef,undef,undef,undef,undef,undef,undef,undef,undef,undef,undef,undef,undef,undef,undef,undef,undef,undef,undef,undef,undef,undef,undef,undef,undef,undef,undef,undef],[]⟩ [.code (Tryz.f12.body.getD .skip)]:=by
   simp [Frame.enter,Frame.at,Tryz.func12,base,Tryz.f12]
  rw [e]
  have k0:KK (S d) g w (S d) g w:=.refl hI
  show LoneTo Tryz.prog (FF S (S d) g w cs y) _ _
  rcases kh (show br (aX most 0) (some ((0,(1,())),d)) (loop (o5 LiveF StepF most) (0,d))=some y from hy) with ⟨hc,h1⟩ | ⟨hc,h1⟩
  ·have hc:most<0:=of_decide_eq_true hc
   cases h1
   refine LoneTo.goes (n:=18) ?_
   simp only [Tryz.f12,Option.getD_some]
   s_c stepG_seq
   s_reg
   s_op
   s_op
   s_c stepG_region_end
   s_c stepG_seq
   s_c stepG_seq
   s_reg
   s_op
   s_op
   s_c stepG_region_end
   s_cond true
   s_c stepG_seq
   s_reg
   s_op
   s_op
   s_c stepG_region_end
   s_stop
   exact uc 0 1 rfl rfl k0 _ _ _ _ _ _ _ _ _ _ _ _ _ _ _ _ _ _ _ _ _ _ _ _ _ _ _ _ _ _ _ _ _ _ _ _ _
  ·have hc:¬most<0:=of_decide_eq_false hc
   rw [nS] at h1
   have hk:=Dh (p:=p) (cs:=cs) (y:=y) (most:=most) hS hL lz (0,d) h1 g w k0 WY
   refine LoneTo.goes (n:=21) ?_
   simp only [Tryz.f12,Option.getD_some]
   s_c stepG_seq
   s_reg
   s_op
   s_op
   s_c stepG_region_end
   s_c stepG_seq
   s_c stepG_seq
   s_reg
   s_op
   s_op
   s_c stepG_region_end
   s_cond false
   s_c stepG_skip
   s_c stepG_seq
   s_reg
   s_op
   s_c stepG_region_end
   s_c stepG_seq
   s_c stepG_block
   s_c stepG_loop
   s_stop
   exact hk _ _ _ _ _ _ _ _ _ _ _ _ _ _ _ _ _ _ _ _ _ _ _ _ _ _ _ _ _ _ _ _ _ _ _ _
 refine key.mono ?_
 rintro e w' ⟨v,gg,h1,h2,h3⟩
 exact ⟨v,gg,h1,h2,h3.inv,h3.ext⟩
end
open Go.Bm
set_option maxRecDepth 1000000
set_option maxHeartbeats 0
abbrev T0:Type:=(List ((Int×(Int×(Int×Int)))×((Option Nat)×((Option Nat)×((Option Nat)×((Option Nat)×((Option Nat)×Int)))))))
abbrev T1:Type:=(List (Option Nat))
abbrev T2:Type:=(List (Option (List Int)))
abbrev T3:Type:=(List (Int×(Int×(Option Nat))))
abbrev T4:Type:=(List (Option (List (Int×Int))))
abbrev T5:Type:=(List (Option (List (Option Nat))))
abbrev T6:Type:=(List ((List (Int×(Int×(Int×(Int×(Int×(Int×Int)))))))×((Option Nat)×((List (Int×Bool))×(((Int×(Int×(Int×(Int×(Int×(Int×Int))))))×(Int×(Int×(Int×(Int×((List (Int×Bool))×(Int×(Int×(Int×(Int×((List Int)×(Int×((List Int)×(Int×(Bool×(Bool×(Bool×(Int×(Int×(List Int))))))))))))))))))))×(Bool×Int))))))
abbrev T7:Type:=(List (Option (List (Int×((Int×(Int×(Int×(Int×(Int×(Int×Int))))))×(Int×(Int×(Int×(Int×(Int×(List Int)))))))))))
abbrev T9:Type:=(List (Option (List (List (Int×(Int×Int))))))
abbrev bt:((Int×(Int×(Int×Int)))×((Option Nat)×((Option Nat)×((Option Nat)×((Option Nat)×((Option Nat)×Int)))))):=((0,(0,(0,0))),(none,(none,(none,(none,(none,0))))))
abbrev aF:((List (Int×(Int×(Int×(Int×(Int×(Int×Int)))))))×((Option Nat)×((List (Int×Bool))×(((Int×(Int×(Int×(Int×(Int×(Int×Int))))))×(Int×(Int×(Int×(Int×((List (Int×Bool))×(Int×(Int×(Int×(Int×((List Int)×(Int×((List Int)×(Int×(Bool×(Bool×(Bool×(Int×(Int×(List Int))))))))))))))))))))×(Bool×Int))))):=([],(none,([],(((0,(0,(0,(0,(0,(0,0)))))),(0,(0,(0,(0,([],(0,(0,(0,(0,([],(0,([],(0,(false,(false,(false,(0,(0,[]))))))))))))))))))),(false,0)))))
abbrev rE:(Int×((Int×(Int×(Int×(Int×(Int×(Int×Int))))))×(Int×(Int×(Int×(Int×(Int×(List Int)))))))):=(0,((0,(0,(0,(0,(0,(0,0)))))),(0,(0,(0,(0,(0,[])))))))
abbrev U0:Type:=(Unit×(Unit×(Unit×(((Int×(Int×(Int×(Int×(Int×(Int×(Int×(Int×(Int×(Int×(Int×((List (Int×Bool))×(Int×(Int×(Int×(Int×((List Int)×(Int×((List Int)×(Int×(Bool×(Bool×(Bool×(Int×(Int×((List Int)×Unit))))))))))))))))))))))))))×Unit)×Unit))))
abbrev U1:Type:=((Int×(Int×(Int×(Int×(Int×(Int×Int))))))×(Int×(Int×(Int×(Int×((List (Int×Bool))×(Int×(Int×(Int×(Int×((List Int)×(Int×((List Int)×(Int×(Bool×(Bool×(Bool×(Int×(Int×(List Int))))))))))))))))))))
abbrev U2:Type:=(Unit×(Unit×(Unit×Unit)))
abbrev U3:Type:=(Int×((Int×(Int×(Int×(Int×(Int×(Int×Int))))))×(Int×(Int×(Int×(Int×(Int×(List Int))))))))
abbrev U4:Type:=(Int×(Int×(Int×Int)))
abbrev U5:Type:=(Int×(Int×(Int×(Int×(Int×(Int×(Int×(Int×(Int×(Int×(Int×((List (Int×Bool))×(Int×(Int×(Int×(Int×((List Int)×(Int×((List Int)×(Int×(Bool×(Bool×(Bool×(Int×(Int×((List Int)×Unit))))))))))))))))))))))))))
abbrev U6:Type:=(Int×(Int×(Int×(Int×((Option Nat)×(Int×(Int×(Int×(Int×(Int×(Int×(Int×(Int×(Int×(Int×(Int×((List (Int×Bool))×(Int×(Int×(Int×(Int×((List Int)×(Int×((List Int)×(Int×(Bool×(Bool×(Bool×(Int×(Int×((List Int)×(Int×Unit))))))))))))))))))))))))))))))))
abbrev U7:Type:=(((Option Nat)×(Int×Unit))×(T0×(T1×(T2×(T3×(T4×(T5×(T6×(T2×(T9×Unit))))))))))
abbrev U8:Type:=((Bool×Unit)×(T0×(T1×(T2×(T3×(T4×(T5×(T6×(T7×(T2×(T9×Unit)))))))))))
abbrev U9:Type:=((Int×Unit)×U2)
abbrev iv:Type:=(Int×(Int×Unit))
abbrev iU:Type:=((Bool×Unit)×U2)
abbrev Gc:Type:=(Option ((Int×((List Int)×((List Int)×(Bool×Unit))))×Unit))
abbrev l_:Type:=(T3×(T4×Unit))
abbrev uJ:Type:=(T0×(T1×(T2×(T3×(T4×(T6×(T7×(T2×(T9×Unit)))))))))
abbrev Fu:Type:=(Unit×(Unit×(((Int×(Int×iv))×Unit)×Unit)))
abbrev mA:Type:=(Option ((Bool×Unit)×Unit))
abbrev oE:Type:=(Int×(Int×(Int×U4)))
abbrev ya:Type:=(Option ((Int×Unit)×l_))
abbrev pM:Type:=(Option ((Int×Unit)×Unit))
abbrev wv:Type:=(Option (((List Int)×Unit)×Unit))
abbrev K5:Type:=((Int×Unit)×(Unit×(Unit×(Unit×l_))))
abbrev B_:Type:=(((List Int)×Unit)×(Unit×(Unit×Unit)))
abbrev sL:Type:=(List (Int×(Int×Int)))
abbrev nu:Type:=(List (Int×Bool))
theorem mixed:Tryz.prog.follows .mixedOrders=true:=by kernel_rfl
theorem bU {cs:uC} (h:lB Tryz.prog cs) {f:FuncId} {sg:dI} {F:Plain sg} (e:∀x c d,F x c d=Ll (cxF env fns homes cs 8) f sg x c d):bB Tryz.prog f sg F:=Vv vZ mixed Ey (hm:=homes) h 8 e
def RT:dI:=⟨[(false,(.int .i64)),(false,(.int .i64))],[(false,(.int .i64)),(false,(.int .i64))],[],[]⟩
def g.jW (a0:Int) (a1:Int):(Option (iv×Unit)):=(br (aX a1 1) (some ((0,(1,())),())) (gd (Hr a1) (br (aX (dB a0 a1) 0) (some (((ae .i64 (dB a0 a1) a1),(0,())),())) (some (((dB a0 a1),(0,())),())))))
def F10:Plain RT:=fun x c d=>g.jW x.1 x.2.1
theorem abr:bB Tryz.prog 10 RT F10:=bU (aO) fun x c d=>by kernel_rfl
def RH:dI:=⟨[(false,(.int .i64)),(false,(.int .i64)),(false,(.int .i64))],[(false,.bool)],[],[]⟩
def g.ab (a0:Int) (a1:Int) (a2:Int):mA:=(br (cW a1 a0) (some (((cW a0 a2),()),())) (some ((false,()),())))
def F38:Plain RH:=fun x c d=>g.ab x.1 x.2.1 x.2.2.1
theorem lI:bB Tryz.prog 38 RH F38:=bU (aO) fun x c d=>by kernel_rfl
def RP:dI:=⟨[(true,(.pair (.int .i64) (.pair (.int .i64) (.pair (.int .i64) (.int .i64)))))],[(false,.bool)],[],[]⟩
def g.eQ (a0:U4):mA:=(bd (g.ab a0.1 1 8) (fun p0=>(br p0.1.1 (bd (g.ab a0.2.1 1 4) (fun p1=>(br p1.1.1 (bd (g.ab a0.2.2.1 0 2048) (fun p2=>(br p2.1.1 (bd (g.ab a0.2.2.2 0 8192) (fun p3=>(br p3.1.1 (some (((af (dB (bits .or .i64 a0.2.2.1 a0.2.2.2) 8) 0),()),())) (some ((false,()),()))))) (some ((false,()),()))))) (some ((false,()),()))))) (some ((false,()),())))))
def F27:Plain RP:=fun x c d=>g.eQ x.1
theorem MP:bB Tryz.prog 27 RP F27:=bU (ao lI (aO)) fun x c d=>by kernel_rfl
def RO:dI:=⟨[(false,(.aI (.aI (.pair (.int .u8) (.pair (.int .i64) (.int .i64))))))],[(false,.bool)],[],[]⟩
def g.gK (a0:(List sL)) (v0:U9) (v1:U9→mA) (k:(U9→mA)) (s:U9):mA:=(br (aX s.1.1 (zN (len (nth [] a0 (nN v0.1.1))))) (gd (bw s.1.1) (gd (bD (nN s.1.1) (len (nth [] a0 (nN v0.1.1)))) (br (cW 5 (cJ .i64 (nth (0,(0,0)) (nth [] a0 (nN v0.1.1)) (nN s.1.1)).1)) (some ((false,()),())) (br (af (nth (0,(0,0)) (nth [] a0 (nN v0.1.1)) (nN s.1.1)).1 0) (bd (g.ab (nth (0,(0,0)) (nth [] a0 (nN v0.1.1)) (nN s.1.1)).2.1 0 99) (fun p0=>(br (ax p0.1.1) (some ((false,()),())) (br (af (nth (0,(0,0)) (nth [] a0 (nN v0.1.1)) (nN s.1.1)).1 0) (bd (g.ab (nth (0,(0,0)) (nth [] a0 (nN v0.1.1)) (nN s.1.1)).2.2 0 0) (fun p1=>(br (ax p1.1.1) (some ((false,()),())) (k (((ae .i64 s.1.1 1),()),((),((),((),())))))))) (br (af (nth (0,(0,0)) (nth [] a0 (nN v0.1.1)) (nN s.1.1)).1 1) (bd (g.ab (nth (0,(0,0)) (nth [] a0 (nN v0.1.1)) (nN s.1.1)).2.2 0 0) (fun p2=>(br (ax p2.1.1) (some ((false,()),())) (k (((ae .i64 s.1.1 1),()),((),((),((),())))))))) (br (af (nth (0,(0,0)) (nth [] a0 (nN v0.1.1)) (nN s.1.1)).1 2) (bd (g.ab (nth (0,(0,0)) (nth [] a0 (nN v0.1.1)) (nN s.1.1)).2.2 0 5) (fun p3=>(br (ax p3.1.1) (some ((false,()),())) (k (((ae .i64 s.1.1 1),()),((),((),((),())))))))) (br (af (nth (0,(0,0)) (nth [] a0 (nN v0.1.1)) (nN s.1.1)).1 3) (bd (g.ab (nth (0,(0,0)) (nth [] a0 (nN v0.1.1)) (nN s.1.1)).2.2 0 8) (fun p4=>(br (ax p4.1.1) (some ((false,()),())) (k (((ae .i64 s.1.1 1),()),((),((),((),())))))))) (br (af (nth (0,(0,0)) (nth [] a0 (nN v0.1.1)) (nN s.1.1)).1 4) (bd (g.ab (nth (0,(0,0)) (nth [] a0 (nN v0.1.1)) (nN s.1.1)).2.2 0 0) (fun p5=>(br (ax p5.1.1) (some ((false,()),())) (k (((ae .i64 s.1.1 1),()),((),((),((),())))))))) none)))))))) (br (af (nth (0,(0,0)) (nth [] a0 (nN v0.1.1)) (nN s.1.1)).1 1) (bd (g.ab (nth (0,(0,0)) (nth [] a0 (nN v0.1.1)) (nN s.1.1)).2.1 0 5) (fun p6=>(br (ax p6.1.1) (some ((false,()),())) (br (af (nth (0,(0,0)) (nth [] a0 (nN v0.1.1)) (nN s.1.1)).1 0) (bd (g.ab (nth (0,(0,0)) (nth [] a0 (nN v0.1.1)) (nN s.1.1)).2.2 0 0) (fun p7=>(br (ax p7.1.1) (some ((false,()),())) (k (((ae .i64 s.1.1 1),()),((),((),((),())))))))) (br (af (nth (0,(0,0)) (nth [] a0 (nN v0.1.1)) (nN s.1.1)).1 1) (bd (g.ab (nth (0,(0,0)) (nth [] a0 (nN v0.1.1)) (nN s.1.1)).2.2 0 0) (fun p8=>(br (ax p8.1.1) (some ((false,()),())) (k (((ae .i64 s.1.1 1),()),((),((),((),())))))))) (br (af (nth (0,(0,0)) (nth [] a0 (nN v0.1.1)) (nN s.1.1)).1 2) (bd (g.ab (nth (0,(0,0)) (nth [] a0 (nN v0.1.1)) (nN s.1.1)).2.2 0 5) (fun p9=>(br (ax p9.1.1) (some ((false,()),())) (k (((ae .i64 s.1.1 1),()),((),((),((),())))))))) (br (af (nth (0,(0,0)) (nth [] a0 (nN v0.1.1)) (nN s.1.1)).1 3) (bd (g.ab (nth (0,(0,0)) (nth [] a0 (nN v0.1.1)) (nN s.1.1)).2.2 0 8) (fun dj=>(br (ax dj.1.1) (some ((false,()),())) (k (((ae .i64 s.1.1 1),()),((),((),((),())))))))) (br (af (nth (0,(0,0)) (nth [] a0 (nN v0.1.1)) (nN s.1.1)).1 4) (bd (g.ab (nth (0,(0,0)) (nth [] a0 (nN v0.1.1)) (nN s.1.1)).2.2 0 0) (fun kC=>(br (ax kC.1.1) (some ((false,()),())) (k (((ae .i64 s.1.1 1),()),((),((),((),())))))))) none)))))))) (br (af (nth (0,(0,0)) (nth [] a0 (nN v0.1.1)) (nN s.1.1)).1 2) (bd (g.ab (nth (0,(0,0)) (nth [] a0 (nN v0.1.1)) (nN s.1.1)).2.1 0 5) (fun cw=>(br (ax cw.1.1) (some ((false,()),())) (br (af (nth (0,(0,0)) (nth [] a0 (nN v0.1.1)) (nN s.1.1)).1 0) (bd (g.ab (nth (0,(0,0)) (nth [] a0 (nN v0.1.1)) (nN s.1.1)).2.2 0 0) (fun cm=>(br (ax cm.1.1) (some ((false,()),())) (k (((ae .i64 s.1.1 1),()),((),((),((),())))))))) (br (af (nth (0,(0,0)) (nth [] a0 (nN v0.1.1)) (nN s.1.1)).1 1) (bd (g.ab (nth (0,(0,0)) (nth [] a0 (nN v0.1.1)) (nN s.1.1)).2.2 0 0) (fun jZ=>(br (ax jZ.1.1) (some ((false,()),())) (k (((ae .i64 s.1.1 1),()),((),((),((),())))))))) (br (af (nth (0,(0,0)) (nth [] a0 (nN v0.1.1)) (nN s.1.1)).1 2) (bd (g.ab (nth (0,(0,0)) (nth [] a0 (nN v0.1.1)) (nN s.1.1)).2.2 0 5) (fun dH=>(br (ax dH.1.1) (some ((false,()),())) (k (((ae .i64 s.1.1 1),()),((),((),((),())))))))) (br (af (nth (0,(0,0)) (nth [] a0 (nN v0.1.1)) (nN s.1.1)).1 3) (bd (g.ab (nth (0,(0,0)) (nth [] a0 (nN v0.1.1)) (nN s.1.1)).2.2 0 8) (fun eT=>(br (ax eT.1.1) (some ((false,()),())) (k (((ae .i64 s.1.1 1),()),((),((),((),())))))))) (br (af (nth (0,(0,0)) (nth [] a0 (nN v0.1.1)) (nN s.1.1)).1 4) (bd (g.ab (nth (0,(0,0)) (nth [] a0 (nN v0.1.1)) (nN s.1.1)).2.2 0 0) (fun gf=>(br (ax gf.1.1) (some ((false,()),())) (k (((ae .i64 s.1.1 1),()),((),((),((),())))))))) none)))))))) (br (af (nth (0,(0,0)) (nth [] a0 (nN v0.1.1)) (nN s.1.1)).1 3) (bd (g.ab (nth (0,(0,0)) (nth [] a0 (nN v0.1.1)) (nN s.1.1)).2.1 0 5) (fun fj=>(br (ax fj.1.1) (some ((false,()),())) (br (af (nth (0,(0,0)) (nth [] a0 (nN v0.1.1)) (nN s.1.1)).1 0) (bd (g.ab (nth (0,(0,0)) (nth [] a0 (nN v0.1.1)) (nN s.1.1)).2.2 0 0) (fun kB=>(br (ax kB.1.1) (some ((false,()),())) (k (((ae .i64 s.1.1 1),()),((),((),((),())))))))) (br (af (nth (0,(0,0)) (nth [] a0 (nN v0.1.1)) (nN s.1.1)).1 1) (bd (g.ab (nth (0,(0,0)) (nth [] a0 (nN v0.1.1)) (nN s.1.1)).2.2 0 0) (fun dS=>(br (ax dS.1.1) (some ((false,()),())) (k (((ae .i64 s.1.1 1),()),((),((),((),())))))))) (br (af (nth (0,(0,0)) (nth [] a0 (nN v0.1.1)) (nN s.1.1)).1 2) (bd (g.ab (nth (0,(0,0)) (nth [] a0 (nN v0.1.1)) (nN s.1.1)).2.2 0 5) (fun lN=>(br (ax lN.1.1) (some ((false,()),())) (k (((ae .i64 s.1.1 1),()),((),((),((),())))))))) (br (af (nth (0,(0,0)) (nth [] a0 (nN v0.1.1)) (nN s.1.1)).1 3) (bd (g.ab (nth (0,(0,0)) (nth [] a0 (nN v0.1.1)) (nN s.1.1)).2.2 0 8) (fun iO=>(br (ax iO.1.1) (some ((false,()),())) (k (((ae .i64 s.1.1 1),()),((),((),((),())))))))) (br (af (nth (0,(0,0)) (nth [] a0 (nN v0.1.1)) (nN s.1.1)).1 4) (bd (g.ab (nth (0,(0,0)) (nth [] a0 (nN v0.1.1)) (nN s.1.1)).2.2 0 0) (fun fc=>(br (ax fc.1.1) (some ((false,()),())) (k (((ae .i64 s.1.1 1),()),((),((),((),())))))))) none)))))))) (br (af (nth (0,(0,0)) (nth [] a0 (nN v0.1.1)) (nN s.1.1)).1 4) (bd (g.ab (nth (0,(0,0)) (nth [] a0 (nN v0.1.1)) (nN s.1.1)).2.1 0 0) (fun jk=>(br (ax jk.1.1) (some ((false,()),())) (br (af (nth (0,(0,0)) (nth [] a0 (nN v0.1.1)) (nN s.1.1)).1 0) (bd (g.ab (nth (0,(0,0)) (nth [] a0 (nN v0.1.1)) (nN s.1.1)).2.2 0 0) (fun eY=>(br (ax eY.1.1) (some ((false,()),())) (k (((ae .i64 s.1.1 1),()),((),((),((),())))))))) (br (af (nth (0,(0,0)) (nth [] a0 (nN v0.1.1)) (nN s.1.1)).1 1) (bd (g.ab (nth (0,(0,0)) (nth [] a0 (nN v0.1.1)) (nN s.1.1)).2.2 0 0) (fun eA=>(br (ax eA.1.1) (some ((false,()),())) (k (((ae .i64 s.1.1 1),()),((),((),((),())))))))) (br (af (nth (0,(0,0)) (nth [] a0 (nN v0.1.1)) (nN s.1.1)).1 2) (bd (g.ab (nth (0,(0,0)) (nth [] a0 (nN v0.1.1)) (nN s.1.1)).2.2 0 5) (fun lF=>(br (ax lF.1.1) (some ((false,()),())) (k (((ae .i64 s.1.1 1),()),((),((),((),())))))))) (br (af (nth (0,(0,0)) (nth [] a0 (nN v0.1.1)) (nN s.1.1)).1 3) (bd (g.ab (nth (0,(0,0)) (nth [] a0 (nN v0.1.1)) (nN s.1.1)).2.2 0 8) (fun lK=>(br (ax lK.1.1) (some ((false,()),())) (k (((ae .i64 s.1.1 1),()),((),((),((),())))))))) (br (af (nth (0,(0,0)) (nth [] a0 (nN v0.1.1)) (nN s.1.1)).1 4) (bd (g.ab (nth (0,(0,0)) (nth [] a0 (nN v0.1.1)) (nN s.1.1)).2.2 0 0) (fun je=>(br (ax je.1.1) (some ((false,()),())) (k (((ae .i64 s.1.1 1),()),((),((),((),())))))))) none)))))))) none)))))))) (br (aX 8 (zN (len (nth [] a0 (nN v0.1.1))))) (some ((false,()),())) (v1 (((ae .i64 v0.1.1 1),()),((),((),((),())))))))
def g.hZ (a0:(List sL)) (k:(U9→mA)) (s:U9):mA:=(br (aX s.1.1 (zN (len a0))) (gd (bw s.1.1) (gd (bD (nN s.1.1) (len a0)) (loop (g.gK a0 s k) ((0,()),((),((),((),()))))))) (some (((cW (zN (len a0)) 8),()),())))
def g.jA (a0:(List sL)):mA:=(loop (g.hZ a0) ((0,()),((),((),((),())))))
def F28:Plain RO:=fun x c d=>g.jA x.1
theorem abn:bB Tryz.prog 28 RO F28:=bU (ao lI (aO)) fun x c d=>by kernel_rfl
def Ry:dI:=⟨[(true,(.pair (.int .i64) (.pair (.int .i64) (.pair (.int .i64) (.int .i64)))))],[(true,(.pair (.int .i64) (.int .i64))),(false,(.int .i64))],[],[]⟩
def g.bN (a0:U4):(Option (((Int×Int)×(Int×Unit))×Unit)):=(bd (g.eQ a0) (fun p0=>(br (ax p0.1.1) (some (((0,0),(1,())),())) (some ((((dO .i64 a0.1 64),a0.2.2.1),(0,())),())))))
def F52:Plain Ry:=fun x c d=>g.bN x.1
theorem VF:bB Tryz.prog 52 Ry F52:=bU (ao MP (aO)) fun x c d=>by kernel_rfl
def RA:dI:=⟨[(true,(.pair (.int .i64) (.pair (.int .i64) (.pair (.int .i64) (.int .i64)))))],[(true,(.pair (.int .i64) (.int .i64))),(false,(.int .i64))],[],[]⟩
def g.fP (a0:U4):(Option (((Int×Int)×(Int×Unit))×Unit)):=(bd (g.bN a0) (fun p0=>(br (ax (af p0.1.2.1 0)) (some (((0,0),(p0.1.2.1,())),())) (some ((((ae .i64 p0.1.1.1 p0.1.1.2),a0.2.2.2),(0,())),())))))
def F50:Plain RA:=fun x c d=>g.fP x.1
theorem VG:bB Tryz.prog 50 RA F50:=bU (ao VF (aO)) fun x c d=>by kernel_rfl
def RD:dI:=⟨[(true,(.pair (.int .i64) (.pair (.int .i64) (.pair (.int .i64) (.int .i64)))))],[(false,(.int .i64)),(false,(.int .i64))],[],[]⟩
def g.jv (a0:U4):(Option (iv×Unit)):=(bd (g.fP a0) (fun p0=>(some (((ae .i64 p0.1.1.1 p0.1.1.2),(p0.1.2.1,())),()))))
def F48:Plain RD:=fun x c d=>g.jv x.1
theorem abg:bB Tryz.prog 48 RD F48:=bU (ao VG (aO)) fun x c d=>by kernel_rfl
def RB:dI:=⟨[(false,(.int .i64))],[(false,(.ptr 1)),(false,(.int .i64))],[],[(1,R1),(2,R2)]⟩
def g.jC (a0:Int) (d0:T1) (d1:T2):(Option (((Option Nat)×(Int×Unit))×(T1×(T2×Unit)))):=(bd (g.ab a0 0 65536) (fun p0=>(br (ax p0.1.1) (some ((none,(1,())),(d0,(d1,())))) (br (ax (af (dB a0 8) 0)) (some ((none,(1,())),(d0,(d1,())))) (gd (bw a0) (gd (bp (nN a0) 16777216) (some (((some (len d0)),(0,())),((cat d0 [(some (len d1))]),((cat d1 [(some (rep (α:=Int) (nN a0) 0))]),()))))))))))
def F49:Plain RB:=fun x c d=>g.jC x.1 d.1 d.2.1
theorem abf:bB Tryz.prog 49 RB F49:=bU (ao lI (aO)) fun x c d=>by kernel_rfl
def Rz:dI:=⟨[(false,(.int .i64)),(false,(.int .i64))],[(false,(.ptr 3)),(false,(.int .i64))],[],[(3,R3),(4,R4)]⟩
def g.fG (a0:Int) (a1:Int) (d0:T3) (d1:T4):(Option (((Option Nat)×(Int×Unit))×l_)):=(jn (fun (k0:(Unit×U2)→_)=>(bd (g.ab a0 0 65536) (fun p1=>(br (ax p1.1.1) (some ((none,(1,())),(d0,(d1,())))) (bd (g.ab a1 0 65536) (fun p2=>(br (ax p2.1.1) (some ((none,(1,())),(d0,(d1,())))) (br (ax (af (dB (bits .or .i64 a0 a1) 8) 0)) (some ((none,(1,())),(d0,(d1,())))) (k0 ((),((),((),((),()))))))))))))) (fun (s3:(Unit×U2))=>(br (aX 0 a1) (some (((some (len d0)),(0,())),((aj (0,(0,none)) (cat d0 [(a0,((ae .i64 a0 a1),none))]) (len d0) (fun r5=>(r5.1,(r5.2.1,(some (len d1)))))),((cat d1 [(some [(a0,a1)])]),())))) (some (((some (len d0)),(0,())),((cat d0 [(a0,((ae .i64 a0 a1),none))]),(d1,())))))))
def F51:Plain Rz:=fun x c d=>g.fG x.1 x.2.1 d.1 d.2.1
theorem abe:bB Tryz.prog 51 Rz F51:=bU (ao lI (aO)) fun x c d=>by kernel_rfl
def Rf:dI:=⟨[(true,(.pair (.int .i64) (.pair (.int .i64) (.pair (.int .i64) (.int .i64))))),(false,(.int .i64)),(false,(.int .i64))],[(false,(.int .i64)),(false,(.int .i64))],[],[]⟩
def g.cQ (a0:U4) (a1:Int) (a2:Int):(Option (iv×Unit)):=(jn (fun (k0:iU→_)=>(bd (g.eQ a0) (fun p1=>(br (ax p1.1.1) (k0 ((true,()),((),((),((),()))))) (bd (g.ab a1 0 4) (fun p2=>(k0 (((ax p2.1.1),()),((),((),((),()))))))))))) (fun (s3:iU)=>(br s3.1.1 (some ((0,(1,())),())) (bd (g.ab a2 0 (aD .i64 a0.1 1)) (fun p4=>(br (ax p4.1.1) (some ((0,(2,())),())) (some (((ae .i64 (dO .i64 a2 64) (dO .i64 a1 8)),(0,())),()))))))))
def F81:Plain Rf:=fun x c d=>g.cQ x.1 x.2.1 x.2.2.1
theorem xW:bB Tryz.prog 81 Rf F81:=bU (ao MP (ao lI (aO))) fun x c d=>by kernel_rfl
def Ka:dI:=⟨[(false,(.db 1)),(false,(.int .i64))],[(false,.bool)],[(1,R1),(2,R2)],[]⟩
def g.cI (a0:Nat) (a1:Int) (c0:T1) (c1:T2):mA:=(opt (nth none c0 a0) (bd (g.ab a1 0 (-8)) (fun p0=>(br p0.1.1 (some (((af (dB a1 8) 0),()),())) (some ((false,()),()))))) (fun p1=>(bd (aT c1 p1) (fun p2=>(bd (g.ab a1 0 (aD .i64 (zN (len p2)) 8)) (fun p3=>(br p3.1.1 (some (((af (dB a1 8) 0),()),())) (some ((false,()),())))))))))
def acd:Plain Ka:=fun x c d=>g.cI x.1 x.2.1 c.1 c.2.1
theorem E2:bB Tryz.prog 127 Ka acd:=bU (ao lI (aO)) fun x c d=>by kernel_rfl
def Re:dI:=⟨[(false,(.db 1)),(false,(.int .i64)),(false,(.int .u64))],[(false,(.int .i64))],[(1,R1)],[(2,R2)]⟩
def g.fI (a0:Nat) (a1:Int) (a2:Int) (c0:T1) (k:(((Int×Unit)×(Unit×(Unit×(Unit×(T2×Unit)))))→(Option ((Int×Unit)×(T2×Unit))))) (s:((Int×Unit)×(Unit×(Unit×(Unit×(T2×Unit)))))):(Option ((Int×Unit)×(T2×Unit))):=(br (aX s.1.1 8) (opt (nth none c0 a0) (gd (bw (dO .i64 8 s.1.1)) none) (fun p0=>(gd (bw (dO .i64 8 s.1.1)) (bd (aT s.2.2.2.2.1 p0) (fun p1=>(gd (bw (ae .i64 a1 s.1.1)) (gd (bD (nN (ae .i64 a1 s.1.1)) (len p1)) (bd (aT s.2.2.2.2.1 p0) (fun p2=>(k (((ae .i64 s.1.1 1),()),((),((),((),((upd s.2.2.2.2.1 p0 (some (upd p2 (nN (ae .i64 a1 s.1.1)) (cJ .u8 (jq .u64 a2 (dO .i64 8 s.1.1)))))),()))))))))))))))) (some ((0,()),(s.2.2.2.2.1,()))))
def g.bb (a0:Nat) (a1:Int) (a2:Int) (c0:T1) (d0:T2):(Option ((Int×Unit)×(T2×Unit))):=(bd (g.cI a0 a1 c0 d0) (fun p0=>(br (ax p0.1.1) (some ((1,()),(d0,()))) (loop (g.fI a0 a1 a2 c0) ((0,()),((),((),((),(d0,())))))))))
def F82:Plain Re:=fun x c d=>g.bb x.1 x.2.1 x.2.2.1 c.1 d.1
theorem BD:bB Tryz.prog 82 Re F82:=bU (ao E2 (aO)) fun x c d=>by kernel_rfl
def Rw:dI:=⟨[(true,(.pair (.ptr 1) (.pair (.pair (.int .i64) (.pair (.int .i64) (.pair (.int .i64) (.int .i64)))) (.int .i64)))),(false,(.int .i64)),(false,(.int .u64))],[],[(1,R1)],[(2,R2)]⟩
def g.aE (a0:((Option Nat)×(U4×Int))) (a1:Int) (a2:Int) (c0:T1) (d0:T2):(Option (Unit×(T2×Unit))):=(bd (g.cQ a0.2.1 a1 a0.2.2) (fun p0=>(opt a0.1 none (fun p1=>(bd (g.bb p1 p0.1.1 a2 c0 d0) (fun p2=>(some ((),(p2.2.1,())))))))))
def F54:Plain Rw:=fun x c d=>g.aE x.1 x.2.1 x.2.2.1 c.1 d.1
theorem Ia:bB Tryz.prog 54 Rw F54:=bU (ao xW (ao BD (aO))) fun x c d=>by kernel_rfl
def JV:dI:=⟨[(false,(.int .i64))],[(false,(.int .i64))],[],[]⟩
def g.kL (a0:Int):pM:=(jn (fun (k0:iU→_)=>(br (af a0 0) (k0 ((true,()),((),((),((),()))))) (k0 (((af a0 1),()),((),((),((),()))))))) (fun (s1:iU)=>(br s1.1.1 (some ((0,()),())) (br (af a0 2) (some ((1,()),())) (br (af a0 3) (some ((2,()),())) (some (((-1),()),())))))))
def abX:Plain JV:=fun x c d=>g.kL x.1
theorem VX:bB Tryz.prog 199 JV abX:=bU (aO) fun x c d=>by kernel_rfl
def Kb:dI:=⟨[(true,(.pair (.int .i64) (.pair (.int .i64) (.pair (.int .i64) (.int .i64)))))],[(false,.bool)],[],[]⟩
def g.ff (a0:U4):mA:=(bd (g.ab a0.2.2.2 0 16777215) (fun p0=>(br (ax p0.1.1) (some ((false,()),())) (bd (g.kL a0.1) (fun p1=>(br (af p1.1.1 0) (br (af a0.2.1 0) (some (((af a0.2.2.1 (-1)),()),())) (some ((false,()),()))) (br (af p1.1.1 1) (bd (g.ab a0.2.1 1 7) (fun p2=>(br p2.1.1 (bd (g.ab a0.2.2.1 (-1) 7) (fun p3=>(some ((p3.1.1,()),())))) (some ((false,()),()))))) (br (af p1.1.1 2) (br (af a0.2.1 0) (bd (g.ab a0.2.2.1 (-1) 7) (fun p4=>(some ((p4.1.1,()),())))) (some ((false,()),()))) (some ((false,()),()))))))))))
def ace:Plain Kb:=fun x c d=>g.ff x.1
theorem zn:bB Tryz.prog 126 Kb ace:=bU (ao lI (ao VX (aO))) fun x c d=>by kernel_rfl
def Rh:dI:=⟨[(true,(.pair (.int .i64) (.pair (.int .i64) (.pair (.int .i64) (.int .i64)))))],[(false,(.int .u64)),(false,(.int .i64))],[],[]⟩
def g.gB (a0:U4):(Option (iv×Unit)):=(bd (g.ff a0) (fun p0=>(br (ax p0.1.1) (some ((0,(1,())),())) (some (((bits .or .u64 (bits .or .u64 (bits .or .u64 (cJ .u64 a0.1) (kW .u64 (cJ .u64 a0.2.1) 2)) (kW .u64 (cJ .u64 (ae .i64 a0.2.2.1 1)) 10)) (kW .u64 (cJ .u64 a0.2.2.2) 18)),(0,())),())))))
def F80:Plain Rh:=fun x c d=>g.gB x.1
theorem MN:bB Tryz.prog 80 Rh F80:=bU (ao zn (aO)) fun x c d=>by kernel_rfl
def Rx:dI:=⟨[(true,(.pair (.ptr 1) (.pair (.pair (.int .i64) (.pair (.int .i64) (.pair (.int .i64) (.int .i64)))) (.int .i64)))),(true,(.pair (.int .i64) (.pair (.int .i64) (.pair (.int .i64) (.int .i64)))))],[],[(1,R1)],[(2,R2)]⟩
def g.bA (a0:((Option Nat)×(U4×Int))) (a1:U4) (c0:T1) (d0:T2):(Option (Unit×(T2×Unit))):=(bd (g.gB a1) (fun p0=>(bd (g.aE a0 0 p0.1.1 c0 d0) (fun p1=>(some ((),(p1.2.1,())))))))
def F53:Plain Rx:=fun x c d=>g.bA x.1 x.2.1 c.1 d.1
theorem MO:bB Tryz.prog 53 Rx F53:=bU (ao Ia (ao MN (aO))) fun x c d=>by kernel_rfl
def RN:dI:=⟨[(true,(.pair (.int .i64) (.pair (.int .i64) (.pair (.int .i64) (.int .i64)))))],[(false,(.ptr 1)),(false,(.ptr 3)),(false,(.int .i64))],[],[(1,R1),(2,R2),(3,R3),(4,R4)]⟩
def g.jz (a0:U4) (d0:T1) (d1:T2) (d2:T3) (d3:T4):(Option (((Option Nat)×((Option Nat)×(Int×Unit)))×(T1×(T2×l_)))):=(bd (g.jv a0) (fun p0=>(br (ax (af p0.1.2.1 0)) (some ((none,(none,(p0.1.2.1,()))),(d0,(d1,(d2,(d3,())))))) (bd (g.jC p0.1.1 d0 d1) (fun p1=>(opt p1.1.1 (bd (g.fP a0) (fun p2=>(bd (g.fG p2.1.1.1 p2.1.1.2 d2 d3) (fun p3=>(opt p3.1.1 (bd (g.bN a0) (fun p4=>(bd (g.bA (none,(a0,0)) (2,(1,((-1),0))) p1.2.1 p1.2.2.1) (fun p5=>(bd (g.aE (none,(a0,0)) 1 (cJ .u64 p4.1.1.1) p1.2.1 p5.2.1) (fun p6=>(bd (g.aE (none,(a0,0)) 2 (cJ .u64 p4.1.1.2) p1.2.1 p6.2.1) (fun p7=>(some ((none,(none,(0,()))),(p1.2.1,(p7.2.1,(p3.2.1,(p3.2.2.1,())))))))))))))) (fun p8=>(bd (g.bN a0) (fun p9=>(bd (g.bA (none,(a0,0)) (2,(1,((-1),0))) p1.2.1 p1.2.2.1) (fun dj=>(bd (g.aE (none,(a0,0)) 1 (cJ .u64 p9.1.1.1) p1.2.1 dj.2.1) (fun kC=>(bd (g.aE (none,(a0,0)) 2 (cJ .u64 p9.1.1.2) p1.2.1 kC.2.1) (fun cw=>(some ((none,((some p8),(0,()))),(p1.2.1,(cw.2.1,(p3.2.1,(p3.2.2.1,())))))))))))))))))))) (fun cm=>(bd (g.fP a0) (fun jZ=>(bd (g.fG jZ.1.1.1 jZ.1.1.2 d2 d3) (fun dH=>(opt dH.1.1 (bd (g.bN a0) (fun eT=>(bd (g.bA ((some cm),(a0,0)) (2,(1,((-1),0))) p1.2.1 p1.2.2.1) (fun gf=>(bd (g.aE ((some cm),(a0,0)) 1 (cJ .u64 eT.1.1.1) p1.2.1 gf.2.1) (fun fj=>(bd (g.aE ((some cm),(a0,0)) 2 (cJ .u64 eT.1.1.2) p1.2.1 fj.2.1) (fun kB=>(some (((some cm),(none,(0,()))),(p1.2.1,(kB.2.1,(dH.2.1,(dH.2.2.1,())))))))))))))) (fun dS=>(bd (g.bN a0) (fun lN=>(bd (g.bA ((some cm),(a0,0)) (2,(1,((-1),0))) p1.2.1 p1.2.2.1) (fun iO=>(bd (g.aE ((some cm),(a0,0)) 1 (cJ .u64 lN.1.1.1) p1.2.1 iO.2.1) (fun fc=>(bd (g.aE ((some cm),(a0,0)) 2 (cJ .u64 lN.1.1.2) p1.2.1 fc.2.1) (fun jk=>(some (((some cm),((some dS),(0,()))),(p1.2.1,(jk.2.1,(dH.2.1,(dH.2.2.1,())))))))))))))))))))))))))))
def F30:Plain RN:=fun x c d=>g.jz x.1 d.1 d.2.1 d.2.2.1 d.2.2.2.1
theorem abm:bB Tryz.prog 30 RN F30:=bU (ao abg (ao abf (ao VG (ao abe (ao VF (ao MO (ao Ia (aO)))))))) fun x c d=>by kernel_rfl
def RM:dI:=⟨[(false,(.aI (.pair (.int .u8) (.pair (.int .i64) (.int .i64)))))],[(false,(.aI (.pair (.int .u8) (.pair (.int .i64) (.int .i64)))))],[],[]⟩
def g.eE (a0:sL):(Option ((sL×Unit)×Unit)):=(gd (bp (aK 0 (len a0)) 16777216) (some (((cat [] a0),()),())))
def F31:Plain RM:=fun x c d=>g.eE x.1
theorem abl:bB Tryz.prog 31 RM F31:=uh (rb vZ mixed Ey (hm:=homes) (aO) 8) (t:=(.pair (.int .u8) (.pair (.int .i64) (.int .i64)))) (rs:=[(false,.aI (.pair (.int .u8) (.pair (.int .i64) (.int .i64))))]) (F:=fun l=>F31 (l,()) () ()) (by kernel_rfl) (fun l=>by kernel_rfl)
def RL:dI:=⟨[(false,(.aI (.pair (.int .u8) (.pair (.int .u8) (.pair (.int .u8) (.pair (.int .u8) (.pair (.int .i64) (.pair (.int .i64) (.int .i64)))))))))],[(false,(.aI (.pair (.int .u8) (.pair (.int .u8) (.pair (.int .u8) (.pair (.int .u8) (.pair (.int .i64) (.pair (.int .i64) (.int .i64)))))))))],[],[]⟩
def g.fO (a0:(List oE)):(Option (((List oE)×Unit)×Unit)):=(gd (bp (aK 0 (len a0)) 16777216) (some (((cat [] a0),()),())))
def F32:Plain RL:=fun x c d=>g.fO x.1
theorem abk:bB Tryz.prog 32 RL F32:=uh (rb vZ mixed Ey (hm:=homes) (aO) 8) (t:=(.pair (.int .u8) (.pair (.int .u8) (.pair (.int .u8) (.pair (.int .u8) (.pair (.int .i64) (.pair (.int .i64) (.int .i64)))))))) (rs:=[(false,.aI (.pair (.int .u8) (.pair (.int .u8) (.pair (.int .u8) (.pair (.int .u8) (.pair (.int .i64) (.pair (.int .i64) (.int .i64))))))))]) (F:=fun l=>F32 (l,()) () ()) (by kernel_rfl) (fun l=>by kernel_rfl)
def RR:dI:=⟨[(true,(.pair (.int .i64) (.pair (.int .i64) (.pair (.int .i64) (.int .i64))))),(false,(.aI (.aI (.pair (.int .u8) (.pair (.int .i64) (.int .i64)))))),(false,(.aI (.aI (.pair (.int .u8) (.pair (.int .u8) (.pair (.int .u8) (.pair (.int .u8) (.pair (.int .i64) (.pair (.int .i64) (.int .i64))))))))))],[(false,(.ptr 0)),(false,(.int .i64))],[(7,R7)],[(0,R0),(1,R1),(2,R2),(3,R3),(4,R4),(5,R5),(6,R6),(8,R8),(9,R9)]⟩
def g.jh (a0:U4) (a2:(List (List oE))) (d0:T0) (v0:(((Option Nat)×((Option Nat)×(Int×Unit)))×(T1×(T2×l_)))) (v1:((Int×Unit)×(Unit×(Unit×(Unit×(T0×(T9×Unit))))))) (k:(((Int×Unit)×(Unit×(Unit×(Unit×(T0×(T5×(T6×(T2×Unit))))))))→(Option U7))) (s:((Int×Unit)×(Unit×(Unit×(Unit×(T0×(T5×(T6×(T2×Unit))))))))):(Option U7):=(br (aX s.1.1 a0.2.1) (jn (fun (k0:(Unit×(Unit×(Unit×(Unit×(T6×Unit)))))→_)=>(br (aX s.1.1 (zN (len a2))) (gd (bw s.1.1) (gd (bD (nN s.1.1) (len a2)) (bd (g.fO (nth [] a2 (nN s.1.1))) (fun p1=>(k0 ((),((),((),((),((aj aF (cat s.2.2.2.2.2.2.1 [([],((some (len s.2.2.2.2.2.2.2.1)),([],(((0,(0,(0,(0,(0,(0,0)))))),(0,(0,(0,(0,([],(0,(0,(0,(0,([],(0,([],(0,(false,(false,(false,(0,(0,[]))))))))))))))))))),(false,0)))))]) (len s.2.2.2.2.2.2.1) (fun r2=>(p1.1.1,r2.2))),())))))))))) (k0 ((),((),((),((),((cat s.2.2.2.2.2.2.1 [([],((some (len s.2.2.2.2.2.2.2.1)),([],(((0,(0,(0,(0,(0,(0,0)))))),(0,(0,(0,(0,([],(0,(0,(0,(0,([],(0,([],(0,(false,(false,(false,(0,(0,[]))))))))))))))))))),(false,0)))))]),())))))))) (fun (s3:(Unit×(Unit×(Unit×(Unit×(T6×Unit))))))=>(opt (nth bt s.2.2.2.2.1 (len d0)).2.2.2.2.1 (gd (bp (len [(some (len s.2.2.2.2.2.2.1))]) 16777216) (k (((ae .i64 s.1.1 1),()),((),((),((),((aj bt s.2.2.2.2.1 (len d0) (fun r4=>(r4.1,(r4.2.1,(r4.2.2.1,(r4.2.2.2.1,((some (len s.2.2.2.2.2.1)),r4.2.2.2.2.2))))))),((cat s.2.2.2.2.2.1 [(some [(some (len s.2.2.2.2.2.2.1))])]),(s3.2.2.2.2.1,((cat s.2.2.2.2.2.2.2.1 [(some (rep (α:=Int) 4 0))]),())))))))))) (fun p5=>(bd (aT s.2.2.2.2.2.1 p5) (fun p6=>(gd (bp (aK (len p6) (len [(some (len s.2.2.2.2.2.2.1))])) 16777216) (gd (bD p5 (len s.2.2.2.2.2.1)) (k (((ae .i64 s.1.1 1),()),((),((),((),((aj bt s.2.2.2.2.1 (len d0) (fun r7=>(r7.1,(r7.2.1,(r7.2.2.1,(r7.2.2.2.1,((some (len (upd s.2.2.2.2.2.1 p5 none))),r7.2.2.2.2.2))))))),((cat (upd s.2.2.2.2.2.1 p5 none) [(some (cat p6 [(some (len s.2.2.2.2.2.2.1))]))]),(s3.2.2.2.2.1,((cat s.2.2.2.2.2.2.2.1 [(some (rep (α:=Int) 4 0))]),()))))))))))))))))) (some (((some (len d0)),(0,())),(s.2.2.2.2.1,(v0.2.1,(v0.2.2.1,(v0.2.2.2.1,(v0.2.2.2.2.1,(s.2.2.2.2.2.1,(s.2.2.2.2.2.2.1,(s.2.2.2.2.2.2.2.1,(v1.2.2.2.2.2.1,()))))))))))))
def g.dm (a0:U4) (a1:(List sL)) (a2:(List (List oE))) (d0:T0) (d5:T5) (d6:T6) (d7:T2) (v0:(((Option Nat)×((Option Nat)×(Int×Unit)))×(T1×(T2×l_)))) (k:(((Int×Unit)×(Unit×(Unit×(Unit×(T0×(T9×Unit))))))→(Option U7))) (s:((Int×Unit)×(Unit×(Unit×(Unit×(T0×(T9×Unit))))))):(Option U7):=(br (aX s.1.1 (zN (len a1))) (gd (bw s.1.1) (gd (bD (nN s.1.1) (len a1)) (opt (nth bt s.2.2.2.2.1 (len d0)).2.1 (bd (g.eE (nth [] a1 (nN s.1.1))) (fun p0=>(gd (bp (len [p0.1.1]) 16777216) (k (((ae .i64 s.1.1 1),()),((),((),((),((aj bt s.2.2.2.2.1 (len d0) (fun r1=>(r1.1,((some (len s.2.2.2.2.2.1)),r1.2.2)))),((cat s.2.2.2.2.2.1 [(some [p0.1.1])]),())))))))))) (fun p2=>(bd (g.eE (nth [] a1 (nN s.1.1))) (fun p3=>(bd (aT s.2.2.2.2.2.1 p2) (fun p4=>(gd (bp (aK (len p4) (len [p3.1.1])) 16777216) (gd (bD p2 (len s.2.2.2.2.2.1)) (k (((ae .i64 s.1.1 1),()),((),((),((),((aj bt s.2.2.2.2.1 (len d0) (fun r5=>(r5.1,((some (len (upd s.2.2.2.2.2.1 p2 none))),r5.2.2)))),((cat (upd s.2.2.2.2.2.1 p2 none) [(some (cat p4 [p3.1.1]))]),()))))))))))))))))) (loop (g.jh a0 a2 d0 v0 s) ((0,()),((),((),((),(s.2.2.2.2.1,(d5,(d6,(d7,()))))))))))
def g.jg (a2:(List (List oE))) (d0:T0) (d1:T1) (d2:T2) (d3:T3) (d4:T4) (d5:T5) (d6:T6) (d7:T2) (d8:T9) (v0:(Unit×U2)→(Option U7)) (k:(U9→(Option U7))) (s:U9):(Option U7):=(br (aX s.1.1 (zN (len a2))) (gd (bw s.1.1) (gd (bD (nN s.1.1) (len a2)) (br (aX 64 (zN (len (nth [] a2 (nN s.1.1))))) (br (cW 0 s.1.1) (some ((none,(1,())),(d0,(d1,(d2,(d3,(d4,(d5,(d6,(d7,(d8,()))))))))))) (v0 ((),((),((),((),())))))) (k (((ae .i64 s.1.1 1),()),((),((),((),())))))))) (v0 ((),((),((),((),()))))))
def g.iw (a0:U4) (a1:(List sL)) (a2:(List (List oE))) (c0:T7) (d0:T0) (d1:T1) (d2:T2) (d3:T3) (d4:T4) (d5:T5) (d6:T6) (d7:T2) (d8:T9):(Option U7):=(jn (fun (k0:(Unit×U2)→_)=>(bd (g.eQ a0) (fun p1=>(br (ax p1.1.1) (some ((none,(1,())),(d0,(d1,(d2,(d3,(d4,(d5,(d6,(d7,(d8,()))))))))))) (bd (g.jA a1) (fun p2=>(br (ax p2.1.1) (some ((none,(1,())),(d0,(d1,(d2,(d3,(d4,(d5,(d6,(d7,(d8,()))))))))))) (br (aX a0.2.1 (zN (len a2))) (some ((none,(1,())),(d0,(d1,(d2,(d3,(d4,(d5,(d6,(d7,(d8,()))))))))))) (loop (g.jg a2 d0 d1 d2 d3 d4 d5 d6 d7 d8 k0) ((0,()),((),((),((),()))))))))))))) (fun (s5:(Unit×U2))=>(bd (g.jz a0 d1 d2 d3 d4) (fun p6=>(opt p6.1.1 (opt p6.1.2.1 (loop (g.dm a0 a1 a2 d0 d5 d6 d7 p6) ((0,()),((),((),((),((cat d0 [(a0,(none,(none,(none,(none,(none,0))))))]),(d8,()))))))) (fun dS=>(loop (g.dm a0 a1 a2 d0 d5 d6 d7 p6) ((0,()),((),((),((),((cat d0 [(a0,(none,(none,((some dS),(none,(none,0))))))]),(d8,()))))))))) (fun vf=>(opt p6.1.2.1 (loop (g.dm a0 a1 a2 d0 d5 d6 d7 p6) ((0,()),((),((),((),((cat d0 [(a0,(none,((some vf),(none,(none,(none,0))))))]),(d8,()))))))) (fun AL=>(loop (g.dm a0 a1 a2 d0 d5 d6 d7 p6) ((0,()),((),((),((),((cat d0 [(a0,(none,((some vf),((some AL),(none,(none,0))))))]),(d8,())))))))))))))))
def F11:Plain RR:=fun x c d=>g.iw x.1 x.2.1 x.2.2.1 c.1 d.1 d.2.1 d.2.2.1 d.2.2.2.1 d.2.2.2.2.1 d.2.2.2.2.2.1 d.2.2.2.2.2.2.1 d.2.2.2.2.2.2.2.1 d.2.2.2.2.2.2.2.2.1
theorem V6:bB Tryz.prog 11 RR F11:=bU (ao MP (ao abn (ao abm (ao abl (ao abk (aO)))))) fun x c d=>by kernel_rfl
def RI:dI:=⟨[(false,(.db 6))],[(false,.bool)],[(6,R6),(8,R8)],[]⟩
def g.bj (a0:Nat) (c0:T6) (c1:T2):mA:=(br (ax (nth aF c0 a0).2.2.2.2.1) (some (((af (zN (len (nth aF c0 a0).1)) 0),()),())) (some ((false,()),())))
def F37:Plain RI:=fun x c d=>g.bj x.1 c.1 c.2.1
theorem VH:bB Tryz.prog 37 RI F37:=bU (aO) fun x c d=>by kernel_rfl
def Lh:dI:=⟨[(false,(.db 0))],[(false,(.aI (.int .i64)))],[(0,R0),(1,R1),(2,R2),(3,R3),(4,R4),(5,R5),(6,R6),(7,R7),(8,R8),(9,R9)],[]⟩
def g.eZ (c5:T5) (c6:T6) (c8:T2) (v0:T1) (v1:Nat) (k:(((Int×Unit)×B_)→wv)) (s:((Int×Unit)×B_)):wv:=(br (aX s.1.1 (zN (len v0))) (bd (aT c5 v1) (fun p0=>(gd (bw s.1.1) (gd (bD (nN s.1.1) (len p0)) (bd (aT c5 v1) (fun p1=>(opt (nth none p1 (nN s.1.1)) none (fun p2=>(bd (g.bj p2 c6 c8) (fun p3=>(br p3.1.1 (k (((ae .i64 s.1.1 1),()),((s.2.1.1,()),((),((),()))))) (gd (bp (aK (len s.2.1.1) (len [s.1.1])) 16777216) (k (((ae .i64 s.1.1 1),()),(((cat s.2.1.1 [s.1.1]),()),((),((),()))))))))))))))))) (some ((s.2.1.1,()),())))
def g.gL (k:(((Int×Unit)×B_)→wv)) (s:((Int×Unit)×B_)):wv:=(br (aX s.1.1 0) none (some ((s.2.1.1,()),())))
def g.eg (a0:Nat) (c0:T0) (c1:T1) (c2:T2) (c3:T3) (c4:T4) (c5:T5) (c6:T6) (c7:T7) (c8:T2) (c9:T9):wv:=(opt (nth bt c0 a0).2.2.2.2.1 (loop g.gL ((0,()),(([],()),((),((),()))))) (fun p2=>(bd (aT c5 p2) (fun p3=>(loop (g.eZ c5 c6 c8 p3 p2) ((0,()),(([],()),((),((),())))))))))
def Wi:Plain Lh:=fun x c d=>g.eg x.1 c.1 c.2.1 c.2.2.1 c.2.2.2.1 c.2.2.2.2.1 c.2.2.2.2.2.1 c.2.2.2.2.2.2.1 c.2.2.2.2.2.2.2.1 c.2.2.2.2.2.2.2.2.1 c.2.2.2.2.2.2.2.2.2.1
theorem abp:bB Tryz.prog 17 Lh Wi:=bU (ao VH (aO)) fun x c d=>by kernel_rfl
def Rv:dI:=⟨[(false,(.aI (.pair (.int .i64) .bool)))],[(false,(.int .i64))],[],[]⟩
def g.cy (a0:nu):pM:=(br (af (zN (len a0)) 0) (some ((0,()),())) (gd (bw (aD .i64 (zN (len a0)) 1)) (gd (bD (nN (aD .i64 (zN (len a0)) 1)) (len a0)) (some (((nth (0,false) a0 (nN (aD .i64 (zN (len a0)) 1))).1,()),())))))
def F56:Plain Rv:=fun x c d=>g.cy x.1
theorem VE:bB Tryz.prog 56 Rv F56:=bU (aO) fun x c d=>by kernel_rfl
def Ru:dI:=⟨[(false,(.aI (.pair (.int .i64) .bool)))],[(false,(.aI (.pair (.int .i64) .bool)))],[],[]⟩
def g.bz (a0:nu):(Option ((nu×Unit)×Unit)):=(gd (bp (aK 0 (len a0)) 16777216) (some (((cat [] a0),()),())))
def F57:Plain Ru:=fun x c d=>g.bz x.1
theorem VC:bB Tryz.prog 57 Ru F57:=uh (rb vZ mixed Ey (hm:=homes) (aO) 8) (t:=(.pair (.int .i64) .bool)) (rs:=[(false,.aI (.pair (.int .i64) .bool))]) (F:=fun l=>F57 (l,()) () ()) (by kernel_rfl) (fun l=>by kernel_rfl)
def Rj:dI:=⟨[(false,(.aI (.pair (.int .i64) .bool))),(true,(.pair (.int .i64) .bool))],[(false,(.aI (.pair (.int .i64) .bool))),(false,(.int .i64))],[],[]⟩
def g.bL (a0:nu) (a1:(Int×Bool)):(Option ((nu×(Int×Unit))×Unit)):=(br (cW 6 (zN (len a0))) (some (([],(24,())),())) (gd (bw (ae .i64 (zN (len a0)) 1)) (gd (bp (nN (ae .i64 (zN (len a0)) 1)) 16777216) (gd (bD 0 (len (rep (α:=(Int×Bool)) (nN (ae .i64 (zN (len a0)) 1)) (0,false)))) (gd (bp (len a0) (len (rep (α:=(Int×Bool)) (nN (ae .i64 (zN (len a0)) 1)) (0,false)))) (gd (bw (zN (len a0))) (gd (bD (nN (zN (len a0))) (len (cat a0 (dr (len a0) (rep (α:=(Int×Bool)) (nN (ae .i64 (zN (len a0)) 1)) (0,false)))))) (some (((upd (cat a0 (dr (len a0) (rep (α:=(Int×Bool)) (nN (ae .i64 (zN (len a0)) 1)) (0,false)))) (nN (zN (len a0))) a1),(0,())),())))))))))
def F67:Plain Rj:=fun x c d=>g.bL x.1 x.2.1
theorem VB:bB Tryz.prog 67 Rj F67:=bU (aO) fun x c d=>by kernel_rfl
def Ri:dI:=⟨[(false,(.aI (.pair (.int .i64) .bool)))],[(false,(.aI (.pair (.int .i64) .bool))),(true,(.pair (.int .i64) .bool)),(false,(.int .i64))],[],[]⟩
def g.g5 (a0:nu):(Option ((nu×((Int×Bool)×(Int×Unit)))×Unit)):=(br (aX (aD .i64 (zN (len a0)) 1) 0) (some (([],((0,false),(23,()))),())) (gd (bw (aD .i64 (zN (len a0)) 1)) (gd (bp 0 (nN (aD .i64 (zN (len a0)) 1))) (gd (bp (nN (aD .i64 (zN (len a0)) 1)) (len a0)) (bd (g.bz (tk (az (nN (aD .i64 (zN (len a0)) 1)) 0) (dr 0 a0))) (fun p0=>(gd (bw (aD .i64 (zN (len a0)) 1)) (gd (bD (nN (aD .i64 (zN (len a0)) 1)) (len a0)) (some ((p0.1.1,((nth (0,false) a0 (nN (aD .i64 (zN (len a0)) 1))),(0,()))),()))))))))))
def F68:Plain Ri:=fun x c d=>g.g5 x.1
theorem VA:bB Tryz.prog 68 Ri F68:=bU (ao VC (aO)) fun x c d=>by kernel_rfl
def J_:dI:=⟨[(false,(.aI (.pair (.int .i64) .bool))),(false,(.int .i64))],[(false,(.int .i64))],[],[]⟩
def g.g4 (a0:nu) (a1:Int) (k:(U9→pM)) (s:U9):pM:=(br (aX s.1.1 (zN (len a0))) (gd (bw s.1.1) (gd (bD (nN s.1.1) (len a0)) (br (l7 (af a1 (nth (0,false) a0 (nN s.1.1)).1) (l7 (pK true (nth (0,false) a0 (nN s.1.1)).2) true)) (some ((s.1.1,()),())) (k (((ae .i64 s.1.1 1),()),((),((),((),())))))))) (some (((-1),()),())))
def g.jQ (a0:nu) (a1:Int):pM:=(loop (g.g4 a0 a1) ((0,()),((),((),((),())))))
def acb:Plain J_:=fun x c d=>g.jQ x.1 x.2.1
theorem KV:bB Tryz.prog 128 J_ acb:=bU (aO) fun x c d=>by kernel_rfl
def Rd:dI:=⟨[(false,(.aI (.pair (.int .i64) .bool))),(false,(.int .i64))],[(false,.bool)],[],[]⟩
def g.bh (a0:nu) (a1:Int):mA:=(br (af a1 0) (some ((true,()),())) (bd (g.jQ a0 a1) (fun p0=>(some (((cW 0 p0.1.1),()),())))))
def F85:Plain Rd:=fun x c d=>g.bh x.1 x.2.1
theorem Vz:bB Tryz.prog 85 Rd F85:=bU (ao KV (aO)) fun x c d=>by kernel_rfl
def J0:dI:=⟨[(true,(.pair (.int .i64) (.pair (.int .i64) (.int .i64))))],[(false,(.int .u64)),(false,(.int .i64))],[],[]⟩
def g.lM (a0:(Int×(Int×Int))):(Option (iv×Unit)):=(jn (fun (k0:(Unit×U2)→_)=>(bd (g.ab a0.1 0 7) (fun p1=>(br (ax p1.1.1) (some ((0,(1,())),())) (bd (g.ab a0.2.1 0 16777215) (fun p2=>(br (ax p2.1.1) (some ((0,(1,())),())) (bd (g.ab a0.2.2 8 65528) (fun p3=>(br (ax p3.1.1) (some ((0,(1,())),())) (br (ax (af (dB a0.2.2 8) 0)) (some ((0,(1,())),())) (k0 ((),((),((),((),())))))))))))))))) (fun (s4:(Unit×U2))=>(some (((bits .or .u64 (bits .or .u64 (cJ .u64 (Bl .i64 a0.2.2 8)) (kW .u64 (cJ .u64 a0.1) 24)) (kW .u64 (cJ .u64 a0.2.1) 32)),(0,())),()))))
def ab2:Plain J0:=fun x c d=>g.lM x.1
theorem KS:bB Tryz.prog 144 J0 ab2:=bU (ao lI (aO)) fun x c d=>by kernel_rfl
def J9:dI:=⟨[(false,(.int .u64))],[(true,(.pair (.int .i64) (.pair (.int .i64) (.int .i64)))),(false,(.int .i64))],[],[]⟩
def g.fy (a0:Int):(Option (((Int×(Int×Int))×(Int×Unit))×Unit)):=(bd (g.lM ((cJ .i64 (bits .and .u64 (jq .u64 a0 24) 255)),((cJ .i64 (jq .u64 a0 32)),(dO .i64 (cJ .i64 (bits .and .u64 a0 16777215)) 8)))) (fun p0=>(br (ax (af p0.1.2.1 0)) (some (((0,(0,0)),(18,())),())) (br (ax (af p0.1.1 a0)) (some (((0,(0,0)),(18,())),())) (br (l7 (af (cJ .i64 (bits .and .u64 (jq .u64 a0 24) 255)) 0) (l7 (af (cJ .i64 (jq .u64 a0 32)) 0) (l7 (af (dO .i64 (cJ .i64 (bits .and .u64 a0 16777215)) 8) 0) true))) (some (((0,(0,0)),(18,())),())) (some ((((cJ .i64 (bits .and .u64 (jq .u64 a0 24) 255)),((cJ .i64 (jq .u64 a0 32)),(dO .i64 (cJ .i64 (bits .and .u64 a0 16777215)) 8))),(0,())),())))))))
def aca:Plain J9:=fun x c d=>g.fy x.1
theorem KU:bB Tryz.prog 129 J9 aca:=bU (ao KS (aO)) fun x c d=>by kernel_rfl
def Rc:dI:=⟨[(true,(.pair (.int .i64) (.pair (.int .i64) (.pair (.int .i64) (.int .i64))))),(false,(.aI (.pair (.int .i64) .bool))),(false,(.int .u64))],[(true,(.pair (.int .i64) (.pair (.int .i64) (.int .i64)))),(false,(.int .i64))],[],[]⟩
def g.cB (a0:U4) (a1:nu) (a2:Int):(Option (((Int×(Int×Int))×(Int×Unit))×Unit)):=(bd (g.fy a2) (fun p0=>(jn (fun (k1:iU→_)=>(br (ax (af p0.1.2.1 0)) (k1 ((true,()),((),((),((),()))))) (k1 (((cW a0.1 p0.1.1.1),()),((),((),((),()))))))) (fun (s2:iU)=>(br s2.1.1 (some (((0,(0,0)),(18,())),())) (bd (g.bh a1 p0.1.1.1) (fun p3=>(br (ax p3.1.1) (some (((0,(0,0)),(20,())),())) (some ((p0.1.1,(0,())),()))))))))))
def F89:Plain Rc:=fun x c d=>g.cB x.1 x.2.1 x.2.2.1
theorem Vy:bB Tryz.prog 89 Rc F89:=bU (ao Vz (ao KU (aO))) fun x c d=>by kernel_rfl
def Rb:dI:=⟨[(false,(.aI (.int .u8)))],[(false,.bool)],[],[]⟩
def g.h_ (a0:(List Int)) (k:(U9→mA)) (s:U9):mA:=(br (aX s.1.1 (zN (len a0))) (gd (bw s.1.1) (gd (bD (nN s.1.1) (len a0)) (br (cW 4 (nth 0 a0 (nN s.1.1))) (some (((ax (cW 0 s.1.1)),()),())) (k (((ae .i64 s.1.1 1),()),((),((),((),())))))))) (some ((true,()),())))
def g.bI (a0:(List Int)):mA:=(loop (g.h_ a0) ((0,()),((),((),((),())))))
def F90:Plain Rb:=fun x c d=>g.bI x.1
theorem aa7:bB Tryz.prog 90 Rb F90:=bU (aO) fun x c d=>by kernel_rfl
def Ra:dI:=⟨[(false,(.aI (.int .i64)))],[(false,(.int .i64))],[],[]⟩
def g.ia (a0:(List Int)) (k:(U9→pM)) (s:U9):pM:=(br (aX s.1.1 (zN (len a0))) (gd (bw s.1.1) (gd (bD (nN s.1.1) (len a0)) (br (ax (af (nth 0 a0 (nN s.1.1)) 0)) (some (((nth 0 a0 (nN s.1.1)),()),())) (k (((ae .i64 s.1.1 1),()),((),((),((),())))))))) (some ((0,()),())))
def g.av (a0:(List Int)):pM:=(loop (g.ia a0) ((0,()),((),((),((),())))))
def F91:Plain Ra:=fun x c d=>g.av x.1
theorem aa6:bB Tryz.prog 91 Ra F91:=bU (aO) fun x c d=>by kernel_rfl
def J3:dI:=⟨[(false,(.int .i64)),(false,(.int .i64))],[(false,(.int .i64)),(false,(.int .i64))],[],[]⟩
def g.ml (a0:Int) (a1:Int):(Option (iv×Unit)):=(br (ax (pK (aX a0 (ae .i64 a0 a1)) (aX 0 a1))) (some ((0,(3,())),())) (some (((ae .i64 a0 a1),(0,())),())))
def ab5:Plain J3:=fun x c d=>g.ml x.1 x.2.1
theorem V1:bB Tryz.prog 137 J3 ab5:=bU (aO) fun x c d=>by kernel_rfl
def Q7:dI:=⟨[(false,(.int .i64))],[(false,(.int .i64)),(false,(.int .i64))],[],[]⟩
def g.m7 (a0:Int):(Option (iv×Unit)):=(br (aX a0 0) (some ((0,(1,())),())) (bd (g.ml a0 7) (fun p0=>(br (ax (af p0.1.2.1 0)) (some ((0,(p0.1.2.1,())),())) (some (((bits .andNot .i64 p0.1.1 7),(0,())),()))))))
def F95:Plain Q7:=fun x c d=>g.m7 x.1
theorem Vw:bB Tryz.prog 95 Q7 F95:=bU (ao V1 (aO)) fun x c d=>by kernel_rfl
def J8:dI:=⟨[(false,(.int .i64))],[(false,(.int .i64)),(false,(.int .i64))],[],[]⟩
def g.mj (a0:Int):(Option (iv×Unit)):=(bd (g.m7 a0) (fun p0=>(some (((Bl .i64 p0.1.1 8),(p0.1.2.1,())),()))))
def ab_:Plain J8:=fun x c d=>g.mj x.1
theorem V4:bB Tryz.prog 132 J8 ab_:=bU (ao Vw (aO)) fun x c d=>by kernel_rfl
def Q_:dI:=⟨[(false,(.int .i64)),(false,(.int .i64))],[(false,(.int .i64)),(false,(.int .i64))],[],[]⟩
def g.gp (a0:Int) (a1:Int):(Option (iv×Unit)):=(jn (fun (k0:(Unit×U2)→_)=>(bd (g.ab a0 0 6) (fun p1=>(br (ax p1.1.1) (some ((0,(1,())),())) (bd (g.ab a1 0 512) (fun p2=>(br (ax p2.1.1) (some ((0,(1,())),())) (k0 ((),((),((),((),())))))))))))) (fun (s3:(Unit×U2))=>(bd (g.mj a1) (fun p4=>(some (((ae .i64 (ae .i64 2 a0) p4.1.1),(p4.1.2.1,())),()))))))
def F92:Plain Q_:=fun x c d=>g.gp x.1 x.2.1
theorem Vx:bB Tryz.prog 92 Q_ F92:=bU (ao lI (ao V4 (aO))) fun x c d=>by kernel_rfl
def Rt:dI:=⟨[(true,(.pair (.pair (.int .i64) (.pair (.int .i64) (.pair (.int .i64) (.int .i64)))) (.pair (.aI (.pair (.int .i64) .bool)) (.pair (.pair (.int .u8) (.pair (.int .u8) (.pair (.int .u8) (.pair (.int .u8) (.pair (.int .i64) (.pair (.int .i64) (.int .i64))))))) (.pair (.int .u64) (.int .u64))))))],[(false,(.int .i64))],[],[]⟩
def g.bx (a0:(U4×(nu×(oE×(Int×Int))))):pM:=(br (af a0.2.2.1.1 0) (some ((0,()),())) (br (af a0.2.2.1.1 1) (bd (g.bI [a0.2.2.1.2.1]) (fun p0=>(br (ax p0.1.1) (some ((1,()),())) (some ((0,()),()))))) (br (af a0.2.2.1.1 2) (bd (g.ab a0.2.2.1.2.2.2.2.1 1 8192) (fun p1=>(br (ax p1.1.1) (some ((1,()),())) (some ((0,()),()))))) (br (af a0.2.2.1.1 3) (bd (g.ab a0.2.2.1.2.2.2.2.1 1 (aD .i64 a0.1.1 1)) (fun p2=>(br (ax p2.1.1) (some ((11,()),())) (some ((0,()),()))))) (br (af a0.2.2.1.1 4) (bd (g.ab a0.2.2.1.2.2.2.2.1 1 (aD .i64 a0.1.1 1)) (fun p3=>(br (ax p3.1.1) (bd (g.bL a0.2.1 (0,false)) (fun p4=>(bd (g.av [11,p4.1.2.1]) (fun p5=>(some ((p5.1.1,()),())))))) (bd (g.bL a0.2.1 (0,false)) (fun p6=>(bd (g.av [0,p6.1.2.1]) (fun p7=>(some ((p7.1.1,()),()))))))))) (br (af a0.2.2.1.1 6) (bd (g.ab a0.2.2.1.2.2.2.2.1 0 (aD .i64 a0.1.1 1)) (fun p8=>(br (ax p8.1.1) (bd (g.bh a0.2.1 a0.2.2.1.2.2.2.2.1) (fun p9=>(br (ax p9.1.1) (bd (g.bL a0.2.1 (0,false)) (fun dj=>(bd (g.av [11,20,dj.1.2.1]) (fun kC=>(some ((kC.1.1,()),())))))) (bd (g.bL a0.2.1 (0,false)) (fun cw=>(bd (g.av [11,0,cw.1.2.1]) (fun cm=>(some ((cm.1.1,()),()))))))))) (bd (g.bh a0.2.1 a0.2.2.1.2.2.2.2.1) (fun jZ=>(br (ax jZ.1.1) (bd (g.bL a0.2.1 (0,false)) (fun dH=>(bd (g.av [0,20,dH.1.2.1]) (fun eT=>(some ((eT.1.1,()),())))))) (bd (g.bL a0.2.1 (0,false)) (fun gf=>(bd (g.av [0,0,gf.1.2.1]) (fun fj=>(some ((fj.1.1,()),())))))))))))) (br (af a0.2.2.1.1 5) (bd (g.g5 a0.2.1) (fun kB=>(some ((kB.1.2.2.1,()),())))) (br (af a0.2.2.1.1 7) (bd (g.gp a0.2.2.1.2.2.2.2.1 a0.2.2.1.2.2.2.2.2.1) (fun dS=>(bd (g.bI [a0.2.2.1.2.1]) (fun lN=>(br lN.1.1 (bd (g.ab a0.2.2.1.2.2.2.2.2.2 0 7) (fun iO=>(br (ax iO.1.1) (bd (g.av [1,dS.1.2.1]) (fun fc=>(some ((fc.1.1,()),())))) (bd (g.av [0,dS.1.2.1]) (fun jk=>(some ((jk.1.1,()),()))))))) (bd (g.av [1,dS.1.2.1]) (fun eY=>(some ((eY.1.1,()),()))))))))) (br (af a0.2.2.1.1 8) (bd (g.bI [a0.2.2.1.2.1,a0.2.2.1.2.2.1]) (fun eA=>(br (ax eA.1.1) (bd (g.cB a0.1 a0.2.1 a0.2.2.2.1) (fun lF=>(bd (g.av [1,lF.1.2.1]) (fun lK=>(some ((lK.1.1,()),())))))) (bd (g.cB a0.1 a0.2.1 a0.2.2.2.1) (fun je=>(bd (g.av [0,je.1.2.1]) (fun LG=>(some ((LG.1.1,()),()))))))))) (br (af a0.2.2.1.1 9) (bd (g.bI [a0.2.2.1.2.2.1,a0.2.2.1.2.2.2.1]) (fun Si=>(br (ax Si.1.1) (bd (g.cB a0.1 a0.2.1 a0.2.2.2.1) (fun GQ=>(bd (g.av [1,GQ.1.2.1]) (fun GP=>(some ((GP.1.1,()),())))))) (bd (g.cB a0.1 a0.2.1 a0.2.2.2.1) (fun vf=>(bd (g.av [0,vf.1.2.1]) (fun Yl=>(some ((Yl.1.1,()),()))))))))) (br (af a0.2.2.1.1 10) (bd (g.bI [a0.2.2.1.2.1]) (fun LF=>(br (ax LF.1.1) (bd (g.ab a0.2.2.1.2.2.2.2.1 1 (aD .i64 a0.1.1 1)) (fun LD=>(br (ax LD.1.1) (bd (g.bh a0.2.1 a0.2.2.1.2.2.2.2.1) (fun LC=>(br (ax LC.1.1) (bd (g.av [1,11,20]) (fun LB=>(some ((LB.1.1,()),())))) (bd (g.av [1,11,0]) (fun GO=>(some ((GO.1.1,()),()))))))) (bd (g.bh a0.2.1 a0.2.2.1.2.2.2.2.1) (fun LA=>(br (ax LA.1.1) (bd (g.av [1,0,20]) (fun Lz=>(some ((Lz.1.1,()),())))) (bd (g.av [1,0,0]) (fun bT=>(some ((bT.1.1,()),())))))))))) (bd (g.ab a0.2.2.1.2.2.2.2.1 1 (aD .i64 a0.1.1 1)) (fun Ly=>(br (ax Ly.1.1) (bd (g.bh a0.2.1 a0.2.2.1.2.2.2.2.1) (fun Yk=>(br (ax Yk.1.1) (bd (g.av [0,11,20]) (fun AN=>(some ((AN.1.1,()),())))) (bd (g.av [0,11,0]) (fun AM=>(some ((AM.1.1,()),()))))))) (bd (g.bh a0.2.1 a0.2.2.1.2.2.2.2.1) (fun AL=>(br (ax AL.1.1) (bd (g.av [0,0,20]) (fun Lx=>(some ((Lx.1.1,()),())))) (bd (g.av [0,0,0]) (fun GN=>(some ((GN.1.1,()),()))))))))))))) (br (af a0.2.2.1.1 11) (jn (fun (tI:U9→_)=>(bd (g.bI [a0.2.2.1.2.2.2.1]) (fun GL=>(br (ax GL.1.1) (bd (g.ab a0.2.2.1.2.2.2.2.1 1 (aD .i64 a0.1.1 1)) (fun De=>(br (ax De.1.1) (bd (g.bh a0.2.1 a0.2.2.1.2.2.2.2.1) (fun AK=>(br (ax AK.1.1) (bd (g.av [1,11,20]) (fun wF=>(tI ((wF.1.1,()),((),((),((),()))))))) (bd (g.av [1,11,0]) (fun ve=>(tI ((ve.1.1,()),((),((),((),())))))))))) (bd (g.bh a0.2.1 a0.2.2.1.2.2.2.2.1) (fun FP=>(br (ax FP.1.1) (bd (g.av [1,0,20]) (fun yA=>(tI ((yA.1.1,()),((),((),((),()))))))) (bd (g.av [1,0,0]) (fun AJ=>(tI ((AJ.1.1,()),((),((),((),()))))))))))))) (bd (g.ab a0.2.2.1.2.2.2.2.1 1 (aD .i64 a0.1.1 1)) (fun Dd=>(br (ax Dd.1.1) (bd (g.bh a0.2.1 a0.2.2.1.2.2.2.2.1) (fun Sh=>(br (ax Sh.1.1) (bd (g.av [0,11,20]) (fun Se=>(tI ((Se.1.1,()),((),((),((),()))))))) (bd (g.av [0,11,0]) (fun tn=>(tI ((tn.1.1,()),((),((),((),())))))))))) (bd (g.bh a0.2.1 a0.2.2.1.2.2.2.2.1) (fun Yj=>(br (ax Yj.1.1) (bd (g.av [0,0,20]) (fun rN=>(tI ((rN.1.1,()),((),((),((),()))))))) (bd (g.av [0,0,0]) (fun GK=>(tI ((GK.1.1,()),((),((),((),()))))))))))))))))) (fun (Lk:U9)=>(br (af Lk.1.1 0) (br (ax (af a0.2.2.2.2 0)) (bd (g.cB a0.1 a0.2.1 a0.2.2.2.2) (fun Lw=>(some ((Lw.1.2.1,()),())))) (some ((Lk.1.1,()),()))) (some ((Lk.1.1,()),()))))) (some ((1,()),()))))))))))))))
def F58:Plain Rt:=fun x c d=>g.bx x.1
theorem abd:bB Tryz.prog 58 Rt F58:=bU (ao lI (ao VB (ao VA (ao Vz (ao Vy (ao aa7 (ao aa6 (ao Vx (aO))))))))) fun x c d=>by kernel_rfl
def Rs:dI:=⟨[(true,(.pair (.pair (.int .i64) (.pair (.int .i64) (.pair (.int .i64) (.int .i64)))) (.pair (.aI (.pair (.int .i64) .bool)) (.pair (.pair (.int .u8) (.pair (.int .u8) (.pair (.int .u8) (.pair (.int .u8) (.pair (.int .i64) (.pair (.int .i64) (.int .i64))))))) (.pair (.int .u64) (.int .u64))))))],[(false,(.int .i64))],[],[]⟩
def g.ct (a0:(U4×(nu×(oE×(Int×Int))))):pM:=(jn (fun (k0:iU→_)=>(br (af a0.2.2.1.1 2) (k0 ((true,()),((),((),((),()))))) (k0 (((af a0.2.2.1.1 3),()),((),((),((),()))))))) (fun (s1:iU)=>(br s1.1.1 (some ((1,()),())) (br (af a0.2.2.1.1 4) (some ((13,()),())) (br (af a0.2.2.1.1 5) (gd (bw (aD .i64 (zN (len a0.2.1)) 1)) (gd (bD (nN (aD .i64 (zN (len a0.2.1)) 1)) (len a0.2.1)) (br (nth (0,false) a0.2.1 (nN (aD .i64 (zN (len a0.2.1)) 1))).2 (some ((15,()),())) (some ((0,()),()))))) (jn (fun (k2:iU→_)=>(br (af a0.2.2.1.1 7) (k2 ((true,()),((),((),((),()))))) (br (af a0.2.2.1.1 8) (k2 ((true,()),((),((),((),()))))) (k2 (((af a0.2.2.1.1 9),()),((),((),((),())))))))) (fun (s3:iU)=>(br s3.1.1 (some ((5,()),())) (br (af a0.2.2.1.1 10) (some ((11,()),())) (br (af a0.2.2.1.1 11) (br (af a0.2.2.2.2 0) (some ((12,()),())) (some ((7,()),()))) (some ((0,()),()))))))))))))
def F59:Plain Rs:=fun x c d=>g.ct x.1
theorem abc:bB Tryz.prog 59 Rs F59:=bU (aO) fun x c d=>by kernel_rfl
def RG:dI:=⟨[(true,(.pair (.int .i64) (.pair (.int .i64) (.pair (.int .i64) (.int .i64))))),(false,(.iX 8 1)),(false,(.aI (.pair (.int .i64) .bool))),(true,(.pair (.int .u8) (.pair (.int .u8) (.pair (.int .u8) (.pair (.int .u8) (.pair (.int .i64) (.pair (.int .i64) (.int .i64))))))))],[(true,(.pair (.pair (.int .u8) (.pair (.int .u8) (.pair (.int .u8) (.pair (.int .u8) (.pair (.int .i64) (.pair (.int .i64) (.int .i64))))))) (.pair (.int .i64) (.pair (.int .i64) (.pair (.int .u64) (.pair (.int .u64) (.pair (.aI (.pair (.int .i64) .bool)) (.pair (.int .u64) (.pair (.int .u64) (.pair (.int .i64) (.pair (.int .i64) (.pair (.aI (.int .i64)) (.pair (.int .i64) (.pair (.aI (.int .i64)) (.pair (.int .i64) (.pair .bool (.pair .bool (.pair .bool (.pair (.int .i64) (.pair (.int .i64) (.aI (.int .i64))))))))))))))))))))))],[(8,R8)],[]⟩
def g.fM (a0:U4) (a1:(Option Nat)) (a2:nu) (a3:oE) (c0:T2):(Option ((U1×Unit)×Unit)):=(br (cW 4 a3.2.2.1) (br (cW 4 a3.2.2.2.1) (bd (g.cy a2) (fun p0=>(bd (g.bz a2) (fun p1=>(bd (g.bx (a0,(a2,(a3,(0,0))))) (fun p2=>(br (af p2.1.1 0) (bd (g.ct (a0,(a2,(a3,(0,0))))) (fun p3=>(some (((a3,(p3.1.1,(p0.1.1,(0,(0,(p1.1.1,(0,(0,(0,(0,([],(0,([],(0,(false,(false,(false,(p2.1.1,(0,[]))))))))))))))))))),()),())))) (some (((a3,(0,(p0.1.1,(0,(0,(p1.1.1,(0,(0,(0,(0,([],(0,([],(0,(false,(false,(false,(p2.1.1,(0,[]))))))))))))))))))),()),()))))))))) (opt a1 none (fun p4=>(bd (aT c0 p4) (fun p5=>(gd (bw a3.2.2.2.1) (gd (bD (nN a3.2.2.2.1) (len p5)) (bd (aT c0 p4) (fun p6=>(bd (g.cy a2) (fun p7=>(bd (g.bz a2) (fun p8=>(bd (g.bx (a0,(a2,(a3,(0,(nth 0 p6 (nN a3.2.2.2.1))))))) (fun p9=>(br (af p9.1.1 0) (bd (g.ct (a0,(a2,(a3,(0,(nth 0 p6 (nN a3.2.2.2.1))))))) (fun dj=>(some (((a3,(dj.1.1,(p7.1.1,(0,((nth 0 p6 (nN a3.2.2.2.1)),(p8.1.1,(0,(0,(0,(0,([],(0,([],(0,(false,(false,(false,(p9.1.1,(0,[]))))))))))))))))))),()),())))) (some (((a3,(0,(p7.1.1,(0,((nth 0 p6 (nN a3.2.2.2.1)),(p8.1.1,(0,(0,(0,(0,([],(0,([],(0,(false,(false,(false,(p9.1.1,(0,[]))))))))))))))))))),()),())))))))))))))))))) (opt a1 none (fun kC=>(bd (aT c0 kC) (fun cw=>(gd (bw a3.2.2.1) (gd (bD (nN a3.2.2.1) (len cw)) (bd (aT c0 kC) (fun cm=>(br (cW 4 a3.2.2.2.1) (bd (g.cy a2) (fun jZ=>(bd (g.bz a2) (fun dH=>(bd (g.bx (a0,(a2,(a3,((nth 0 cm (nN a3.2.2.1)),0))))) (fun eT=>(br (af eT.1.1 0) (bd (g.ct (a0,(a2,(a3,((nth 0 cm (nN a3.2.2.1)),0))))) (fun gf=>(some (((a3,(gf.1.1,(jZ.1.1,((nth 0 cm (nN a3.2.2.1)),(0,(dH.1.1,(0,(0,(0,(0,([],(0,([],(0,(false,(false,(false,(eT.1.1,(0,[]))))))))))))))))))),()),())))) (some (((a3,(0,(jZ.1.1,((nth 0 cm (nN a3.2.2.1)),(0,(dH.1.1,(0,(0,(0,(0,([],(0,([],(0,(false,(false,(false,(eT.1.1,(0,[]))))))))))))))))))),()),()))))))))) (opt a1 none (fun fj=>(bd (aT c0 fj) (fun kB=>(gd (bw a3.2.2.2.1) (gd (bD (nN a3.2.2.2.1) (len kB)) (bd (aT c0 fj) (fun dS=>(bd (g.cy a2) (fun lN=>(bd (g.bz a2) (fun iO=>(bd (g.bx (a0,(a2,(a3,((nth 0 cm (nN a3.2.2.1)),(nth 0 dS (nN a3.2.2.2.1))))))) (fun fc=>(br (af fc.1.1 0) (bd (g.ct (a0,(a2,(a3,((nth 0 cm (nN a3.2.2.1)),(nth 0 dS (nN a3.2.2.2.1))))))) (fun jk=>(some (((a3,(jk.1.1,(lN.1.1,((nth 0 cm (nN a3.2.2.1)),((nth 0 dS (nN a3.2.2.2.1)),(iO.1.1,(0,(0,(0,(0,([],(0,([],(0,(false,(false,(false,(fc.1.1,(0,[]))))))))))))))))))),()),())))) (some (((a3,(0,(lN.1.1,((nth 0 cm (nN a3.2.2.1)),((nth 0 dS (nN a3.2.2.2.1)),(iO.1.1,(0,(0,(0,(0,([],(0,([],(0,(false,(false,(false,(fc.1.1,(0,[]))))))))))))))))))),()),())))))))))))))))))))))))))))
def F39:Plain RG:=fun x c d=>g.fM x.1 x.2.1 x.2.2.1 x.2.2.2.1 c.1
theorem abj:bB Tryz.prog 39 RG F39:=bU (ao VE (ao VC (ao abd (ao abc (aO))))) fun x c d=>by kernel_rfl
def RJ:dI:=⟨[(false,(.aI (.int .i64)))],[(false,(.aI (.int .i64)))],[],[]⟩
def g.cK (a0:(List Int)):wv:=(gd (bp (aK 0 (len a0)) 16777216) (some (((cat [] a0),()),())))
def F36:Plain RJ:=fun x c d=>g.cK x.1
theorem VI:bB Tryz.prog 36 RJ F36:=uh (rb vZ mixed Ey (hm:=homes) (aO) 8) (t:=(.int .i64)) (rs:=[(false,.aI (.int .i64))]) (F:=fun l=>F36 (l,()) () ()) (by kernel_rfl) (fun l=>by kernel_rfl)
def Rq:dI:=⟨[(true,(.pair (.pair (.int .u8) (.pair (.int .u8) (.pair (.int .u8) (.pair (.int .u8) (.pair (.int .i64) (.pair (.int .i64) (.int .i64))))))) (.pair (.int .i64) (.pair (.int .i64) (.pair (.int .u64) (.pair (.int .u64) (.pair (.aI (.pair (.int .i64) .bool)) (.pair (.int .u64) (.pair (.int .u64) (.pair (.int .i64) (.pair (.int .i64) (.pair (.aI (.int .i64)) (.pair (.int .i64) (.pair (.aI (.int .i64)) (.pair (.int .i64) (.pair .bool (.pair .bool (.pair .bool (.pair (.int .i64) (.pair (.int .i64) (.aI (.int .i64)))))))))))))))))))))),(false,(.int .i64)),(false,(.int .i64))],[(true,(.pair (.pair (.int .u8) (.pair (.int .u8) (.pair (.int .u8) (.pair (.int .u8) (.pair (.int .i64) (.pair (.int .i64) (.int .i64))))))) (.pair (.int .i64) (.pair (.int .i64) (.pair (.int .u64) (.pair (.int .u64) (.pair (.aI (.pair (.int .i64) .bool)) (.pair (.int .u64) (.pair (.int .u64) (.pair (.int .i64) (.pair (.int .i64) (.pair (.aI (.int .i64)) (.pair (.int .i64) (.pair (.aI (.int .i64)) (.pair (.int .i64) (.pair .bool (.pair .bool (.pair .bool (.pair (.int .i64) (.pair (.int .i64) (.aI (.int .i64))))))))))))))))))))))],[],[]⟩
def g.bc (a0:U1) (a1:Int) (a2:Int):(Option ((U1×Unit)×Unit)):=(bd (g.cK a0.2.2.2.2.2.2.2.2.2.2.2.2.1) (fun p0=>(some (((a0.1,(a0.2.1,(a0.2.2.1,(a0.2.2.2.1,(a0.2.2.2.2.1,(a0.2.2.2.2.2.1,(a0.2.2.2.2.2.2.1,(a0.2.2.2.2.2.2.2.1,(a0.2.2.2.2.2.2.2.2.1,(a0.2.2.2.2.2.2.2.2.2.1,(a0.2.2.2.2.2.2.2.2.2.2.1,(a0.2.2.2.2.2.2.2.2.2.2.2.1,(a0.2.2.2.2.2.2.2.2.2.2.2.2.1,(a0.2.2.2.2.2.2.2.2.2.2.2.2.2.1,(a0.2.2.2.2.2.2.2.2.2.2.2.2.2.2.1,(true,(true,(a1,(a2,p0.1.1))))))))))))))))))),()),()))))
def F60:Plain Rq:=fun x c d=>g.bc x.1 x.2.1 x.2.2.1
theorem BE:bB Tryz.prog 60 Rq F60:=bU (ao VI (aO)) fun x c d=>by kernel_rfl
def J5:dI:=⟨[(false,(.db 1)),(false,(.int .i64))],[(false,(.int .u64)),(false,(.int .i64))],[(1,R1),(2,R2)],[]⟩
def g.fa (a0:Nat) (a1:Int) (c0:T1) (c1:T2) (k:((iv×U2)→(Option (iv×Unit)))) (s:(iv×U2)):(Option (iv×Unit)):=(br (aX s.1.2.1 8) (opt (nth none c0 a0) none (fun p0=>(bd (aT c1 p0) (fun p1=>(gd (bw (ae .i64 a1 s.1.2.1)) (gd (bD (nN (ae .i64 a1 s.1.2.1)) (len p1)) (bd (aT c1 p0) (fun p2=>(gd (bw (dO .i64 8 s.1.2.1)) (k (((bits .or .u64 s.1.1 (kW .u64 (cJ .u64 (nth 0 p2 (nN (ae .i64 a1 s.1.2.1)))) (dO .i64 8 s.1.2.1))),((ae .i64 s.1.2.1 1),())),((),((),((),())))))))))))))) (some ((s.1.1,(0,())),())))
def g.aQ (a0:Nat) (a1:Int) (c0:T1) (c1:T2):(Option (iv×Unit)):=(bd (g.cI a0 a1 c0 c1) (fun p0=>(br (ax p0.1.1) (some ((0,(1,())),())) (loop (g.fa a0 a1 c0 c1) ((0,(0,())),((),((),((),()))))))))
def ab7:Plain J5:=fun x c d=>g.aQ x.1 x.2.1 c.1 c.2.1
theorem oi:bB Tryz.prog 135 J5 ab7:=bU (ao E2 (aO)) fun x c d=>by kernel_rfl
def JU:dI:=⟨[(false,(.int .u64)),(false,(.int .i64)),(false,(.int .i64))],[(false,(.int .i64))],[],[]⟩
def g.gA (a0:Int) (a1:Int) (a2:Int):pM:=(gd (bw a1) (gd (bw a2) (some (((cJ .i64 (bits .and .u64 (jq .u64 a0 a1) (aD .u64 (kW .u64 1 a2) 1))),()),()))))
def abW:Plain JU:=fun x c d=>g.gA x.1 x.2.1 x.2.2.1
theorem VW:bB Tryz.prog 203 JU abW:=bU (aO) fun x c d=>by kernel_rfl
def J4:dI:=⟨[(false,(.int .u64))],[(true,(.pair (.int .i64) (.pair (.int .i64) (.pair (.int .i64) (.int .i64))))),(false,(.int .i64))],[],[]⟩
def g.dP (a0:Int):(Option ((U4×(Int×Unit))×Unit)):=(bd (g.gA a0 0 2) (fun p0=>(bd (g.gA a0 2 8) (fun p1=>(bd (g.gA a0 10 8) (fun p2=>(bd (g.gA a0 18 24) (fun p3=>(bd (g.ff (p0.1.1,(p1.1.1,((aD .i64 p2.1.1 1),p3.1.1)))) (fun p4=>(br (ax p4.1.1) (some (((0,(0,(0,0))),(1,())),())) (br (ax (af (jq .u64 a0 42) 0)) (some (((0,(0,(0,0))),(1,())),())) (some (((p0.1.1,(p1.1.1,((aD .i64 p2.1.1 1),p3.1.1))),(0,())),()))))))))))))))
def ab6:Plain J4:=fun x c d=>g.dP x.1
theorem E1:bB Tryz.prog 136 J4 ab6:=bU (ao zn (ao VW (aO))) fun x c d=>by kernel_rfl
def Q8:dI:=⟨[(true,(.pair (.int .i64) (.pair (.int .i64) (.pair (.int .i64) (.int .i64))))),(false,(.db 1)),(false,(.int .i64))],[(true,(.pair (.int .i64) (.pair (.int .i64) (.pair (.int .i64) (.int .i64))))),(false,(.int .i64))],[(1,R1),(2,R2)],[]⟩
def g.fR (a0:U4) (a1:Nat) (a2:Int) (c0:T1) (c1:T2):(Option ((U4×(Int×Unit))×Unit)):=(bd (g.cQ a0 0 a2) (fun p0=>(br (ax (af p0.1.2.1 0)) (some (((0,(0,(0,0))),(11,())),())) (bd (g.aQ a1 p0.1.1 c0 c1) (fun p1=>(bd (g.dP p1.1.1) (fun p2=>(br (ax (af p2.1.2.1 0)) (some (((0,(0,(0,0))),(11,())),())) (some ((p2.1.1,(0,())),()))))))))))
def F94:Plain Q8:=fun x c d=>g.fR x.1 x.2.1 x.2.2.1 c.1 c.2.1
theorem H_:bB Tryz.prog 94 Q8 F94:=bU (ao xW (ao oi (ao E1 (aO)))) fun x c d=>by kernel_rfl
def J7:dI:=⟨[(false,(.db 3)),(false,(.int .i64)),(false,(.int .i64))],[(false,(.int .i64))],[],[(3,R3),(4,R4)]⟩
def g.iu (a0:Nat) (a1:Int) (a2:Int) (v0:U9) (v1:(List (Int×Int))) (v2:(List (Int×Int))) (v3:(List (Int×Int))) (k:(K5→ya)) (s:K5):ya:=(br (aX s.1.1 (zN (len (cat (cat (tk (az (nN v0.1.1) 0) (dr 0 v1)) [(a1,a2)]) (tk (az (len v2) (nN v0.1.1)) (dr (nN v0.1.1) v3)))))) (gd (bw s.1.1) (gd (bD (nN s.1.1) (len (cat (cat (tk (az (nN v0.1.1) 0) (dr 0 v1)) [(a1,a2)]) (tk (az (len v2) (nN v0.1.1)) (dr (nN v0.1.1) v3))))) (opt (nth (0,(0,none)) s.2.2.2.2.1 a0).2.2 (jn (fun (k0:iU→_)=>(k0 ((false,()),((),((),((),())))))) (fun (s1:iU)=>(br s1.1.1 (opt (nth (0,(0,none)) s.2.2.2.2.1 a0).2.2 none (fun p2=>(bd (aT s.2.2.2.2.2.1 p2) (fun p3=>(gd (bw (-1)) (gd (bD 0 (len p3)) (bd (aT s.2.2.2.2.2.1 p2) (fun p4=>(bd (aT s.2.2.2.2.2.1 p2) (fun p5=>(gd (bw (-1)) (gd (bD 0 (len p5)) (bd (aT s.2.2.2.2.2.1 p2) (fun p6=>(k (((ae .i64 s.1.1 1),()),((),((),((),(s.2.2.2.2.1,((upd s.2.2.2.2.2.1 p2 (some (aj (0,0) p6 0 (fun r7=>(r7.1,(ae .i64 (nth (0,0) p4 0).2 (nth (0,0) (cat (cat (tk (az (nN v0.1.1) 0) (dr 0 v1)) [(a1,a2)]) (tk (az (len v2) (nN v0.1.1)) (dr (nN v0.1.1) v3))) (nN s.1.1)).2)))))),()))))))))))))))))))))) (opt (nth (0,(0,none)) s.2.2.2.2.1 a0).2.2 (gd (bp (len [(nth (0,0) (cat (cat (tk (az (nN v0.1.1) 0) (dr 0 v1)) [(a1,a2)]) (tk (az (len v2) (nN v0.1.1)) (dr (nN v0.1.1) v3))) (nN s.1.1))]) 16777216) (k (((ae .i64 s.1.1 1),()),((),((),((),((aj (0,(0,none)) s.2.2.2.2.1 a0 (fun r8=>(r8.1,(r8.2.1,(some (len s.2.2.2.2.2.1)))))),((cat s.2.2.2.2.2.1 [(some [(nth (0,0) (cat (cat (tk (az (nN v0.1.1) 0) (dr 0 v1)) [(a1,a2)]) (tk (az (len v2) (nN v0.1.1)) (dr (nN v0.1.1) v3))) (nN s.1.1))])]),())))))))) (fun p9=>(bd (aT s.2.2.2.2.2.1 p9) (fun dj=>(gd (bp (aK (len dj) (len [(nth (0,0) (cat (cat (tk (az (nN v0.1.1) 0) (dr 0 v1)) [(a1,a2)]) (tk (az (len v2) (nN v0.1.1)) (dr (nN v0.1.1) v3))) (nN s.1.1))])) 16777216) (gd (bD p9 (len s.2.2.2.2.2.1)) (k (((ae .i64 s.1.1 1),()),((),((),((),((aj (0,(0,none)) s.2.2.2.2.1 a0 (fun mL=>(mL.1,(mL.2.1,(some (len (upd s.2.2.2.2.2.1 p9 none))))))),((cat (upd s.2.2.2.2.2.1 p9 none) [(some (cat dj [(nth (0,0) (cat (cat (tk (az (nN v0.1.1) 0) (dr 0 v1)) [(a1,a2)]) (tk (az (len v2) (nN v0.1.1)) (dr (nN v0.1.1) v3))) (nN s.1.1))]))]),())))))))))))))))) (fun cw=>(bd (aT s.2.2.2.2.2.1 cw) (fun cm=>(jn (fun (tK:iU→_)=>(br (cW 0 (aD .i64 (zN (len cm)) 1)) (opt (nth (0,(0,none)) s.2.2.2.2.1 a0).2.2 none (fun dH=>(bd (aT s.2.2.2.2.2.1 dH) (fun eT=>(gd (bw (aD .i64 (zN (len cm)) 1)) (gd (bD (nN (aD .i64 (zN (len cm)) 1)) (len eT)) (bd (aT s.2.2.2.2.2.1 dH) (fun gf=>(opt (nth (0,(0,none)) s.2.2.2.2.1 a0).2.2 none (fun fj=>(bd (aT s.2.2.2.2.2.1 fj) (fun kB=>(gd (bw (aD .i64 (zN (len cm)) 1)) (gd (bD (nN (aD .i64 (zN (len cm)) 1)) (len kB)) (bd (aT s.2.2.2.2.2.1 fj) (fun dS=>(tK (((af (ae .i64 (nth (0,0) gf (nN (aD .i64 (zN (len cm)) 1))).1 (nth (0,0) dS (nN (aD .i64 (zN (len cm)) 1))).2) (nth (0,0) (cat (cat (tk (az (nN v0.1.1) 0) (dr 0 v1)) [(a1,a2)]) (tk (az (len v2) (nN v0.1.1)) (dr (nN v0.1.1) v3))) (nN s.1.1)).1),()),((),((),((),()))))))))))))))))))))) (tK ((false,()),((),((),((),()))))))) (fun (FO:iU)=>(br FO.1.1 (opt (nth (0,(0,none)) s.2.2.2.2.1 a0).2.2 none (fun iO=>(bd (aT s.2.2.2.2.2.1 iO) (fun fc=>(gd (bw (aD .i64 (zN (len cm)) 1)) (gd (bD (nN (aD .i64 (zN (len cm)) 1)) (len fc)) (bd (aT s.2.2.2.2.2.1 iO) (fun jk=>(bd (aT s.2.2.2.2.2.1 iO) (fun eY=>(gd (bw (aD .i64 (zN (len cm)) 1)) (gd (bD (nN (aD .i64 (zN (len cm)) 1)) (len eY)) (bd (aT s.2.2.2.2.2.1 iO) (fun eA=>(k (((ae .i64 s.1.1 1),()),((),((),((),(s.2.2.2.2.1,((upd s.2.2.2.2.2.1 iO (some (aj (0,0) eA (nN (aD .i64 (zN (len cm)) 1)) (fun bW=>(bW.1,(ae .i64 (nth (0,0) jk (nN (aD .i64 (zN (len cm)) 1))).2 (nth (0,0) (cat (cat (tk (az (nN v0.1.1) 0) (dr 0 v1)) [(a1,a2)]) (tk (az (len v2) (nN v0.1.1)) (dr (nN v0.1.1) v3))) (nN s.1.1)).2)))))),()))))))))))))))))))))) (opt (nth (0,(0,none)) s.2.2.2.2.1 a0).2.2 (gd (bp (len [(nth (0,0) (cat (cat (tk (az (nN v0.1.1) 0) (dr 0 v1)) [(a1,a2)]) (tk (az (len v2) (nN v0.1.1)) (dr (nN v0.1.1) v3))) (nN s.1.1))]) 16777216) (k (((ae .i64 s.1.1 1),()),((),((),((),((aj (0,(0,none)) s.2.2.2.2.1 a0 (fun mL=>(mL.1,(mL.2.1,(some (len s.2.2.2.2.2.1)))))),((cat s.2.2.2.2.2.1 [(some [(nth (0,0) (cat (cat (tk (az (nN v0.1.1) 0) (dr 0 v1)) [(a1,a2)]) (tk (az (len v2) (nN v0.1.1)) (dr (nN v0.1.1) v3))) (nN s.1.1))])]),())))))))) (fun lK=>(bd (aT s.2.2.2.2.2.1 lK) (fun je=>(gd (bp (aK (len je) (len [(nth (0,0) (cat (cat (tk (az (nN v0.1.1) 0) (dr 0 v1)) [(a1,a2)]) (tk (az (len v2) (nN v0.1.1)) (dr (nN v0.1.1) v3))) (nN s.1.1))])) 16777216) (gd (bD lK (len s.2.2.2.2.2.1)) (k (((ae .i64 s.1.1 1),()),((),((),((),((aj (0,(0,none)) s.2.2.2.2.1 a0 (fun rB=>(rB.1,(rB.2.1,(some (len (upd s.2.2.2.2.2.1 lK none))))))),((cat (upd s.2.2.2.2.2.1 lK none) [(some (cat je [(nth (0,0) (cat (cat (tk (az (nN v0.1.1) 0) (dr 0 v1)) [(a1,a2)]) (tk (az (len v2) (nN v0.1.1)) (dr (nN v0.1.1) v3))) (nN s.1.1))]))]),())))))))))))))))))))))) (some ((0,()),(s.2.2.2.2.1,(s.2.2.2.2.2.1,())))))
def g.lG (a0:Nat) (a1:Int) (a2:Int) (v0:U9) (v1:(List (Int×Int))) (k:(K5→ya)) (s:K5):ya:=(br (aX s.1.1 (zN (len (cat (cat (tk (az (nN v0.1.1) 0) (dr 0 v1)) [(a1,a2)]) [])))) (gd (bw s.1.1) (gd (bD (nN s.1.1) (len (cat (cat (tk (az (nN v0.1.1) 0) (dr 0 v1)) [(a1,a2)]) []))) (opt (nth (0,(0,none)) s.2.2.2.2.1 a0).2.2 (jn (fun (k0:iU→_)=>(k0 ((false,()),((),((),((),())))))) (fun (s1:iU)=>(br s1.1.1 (opt (nth (0,(0,none)) s.2.2.2.2.1 a0).2.2 none (fun p2=>(bd (aT s.2.2.2.2.2.1 p2) (fun p3=>(gd (bw (-1)) (gd (bD 0 (len p3)) (bd (aT s.2.2.2.2.2.1 p2) (fun p4=>(bd (aT s.2.2.2.2.2.1 p2) (fun p5=>(gd (bw (-1)) (gd (bD 0 (len p5)) (bd (aT s.2.2.2.2.2.1 p2) (fun p6=>(k (((ae .i64 s.1.1 1),()),((),((),((),(s.2.2.2.2.1,((upd s.2.2.2.2.2.1 p2 (some (aj (0,0) p6 0 (fun r7=>(r7.1,(ae .i64 (nth (0,0) p4 0).2 (nth (0,0) (cat (cat (tk (az (nN v0.1.1) 0) (dr 0 v1)) [(a1,a2)]) []) (nN s.1.1)).2)))))),()))))))))))))))))))))) (opt (nth (0,(0,none)) s.2.2.2.2.1 a0).2.2 (gd (bp (len [(nth (0,0) (cat (cat (tk (az (nN v0.1.1) 0) (dr 0 v1)) [(a1,a2)]) []) (nN s.1.1))]) 16777216) (k (((ae .i64 s.1.1 1),()),((),((),((),((aj (0,(0,none)) s.2.2.2.2.1 a0 (fun r8=>(r8.1,(r8.2.1,(some (len s.2.2.2.2.2.1)))))),((cat s.2.2.2.2.2.1 [(some [(nth (0,0) (cat (cat (tk (az (nN v0.1.1) 0) (dr 0 v1)) [(a1,a2)]) []) (nN s.1.1))])]),())))))))) (fun p9=>(bd (aT s.2.2.2.2.2.1 p9) (fun dj=>(gd (bp (aK (len dj) (len [(nth (0,0) (cat (cat (tk (az (nN v0.1.1) 0) (dr 0 v1)) [(a1,a2)]) []) (nN s.1.1))])) 16777216) (gd (bD p9 (len s.2.2.2.2.2.1)) (k (((ae .i64 s.1.1 1),()),((),((),((),((aj (0,(0,none)) s.2.2.2.2.1 a0 (fun mL=>(mL.1,(mL.2.1,(some (len (upd s.2.2.2.2.2.1 p9 none))))))),((cat (upd s.2.2.2.2.2.1 p9 none) [(some (cat dj [(nth (0,0) (cat (cat (tk (az (nN v0.1.1) 0) (dr 0 v1)) [(a1,a2)]) []) (nN s.1.1))]))]),())))))))))))))))) (fun cw=>(bd (aT s.2.2.2.2.2.1 cw) (fun cm=>(jn (fun (tK:iU→_)=>(br (cW 0 (aD .i64 (zN (len cm)) 1)) (opt (nth (0,(0,none)) s.2.2.2.2.1 a0).2.2 none (fun dH=>(bd (aT s.2.2.2.2.2.1 dH) (fun eT=>(gd (bw (aD .i64 (zN (len cm)) 1)) (gd (bD (nN (aD .i64 (zN (len cm)) 1)) (len eT)) (bd (aT s.2.2.2.2.2.1 dH) (fun gf=>(opt (nth (0,(0,none)) s.2.2.2.2.1 a0).2.2 none (fun fj=>(bd (aT s.2.2.2.2.2.1 fj) (fun kB=>(gd (bw (aD .i64 (zN (len cm)) 1)) (gd (bD (nN (aD .i64 (zN (len cm)) 1)) (len kB)) (bd (aT s.2.2.2.2.2.1 fj) (fun dS=>(tK (((af (ae .i64 (nth (0,0) gf (nN (aD .i64 (zN (len cm)) 1))).1 (nth (0,0) dS (nN (aD .i64 (zN (len cm)) 1))).2) (nth (0,0) (cat (cat (tk (az (nN v0.1.1) 0) (dr 0 v1)) [(a1,a2)]) []) (nN s.1.1)).1),()),((),((),((),()))))))))))))))))))))) (tK ((false,()),((),((),((),()))))))) (fun (FO:iU)=>(br FO.1.1 (opt (nth (0,(0,none)) s.2.2.2.2.1 a0).2.2 none (fun iO=>(bd (aT s.2.2.2.2.2.1 iO) (fun fc=>(gd (bw (aD .i64 (zN (len cm)) 1)) (gd (bD (nN (aD .i64 (zN (len cm)) 1)) (len fc)) (bd (aT s.2.2.2.2.2.1 iO) (fun jk=>(bd (aT s.2.2.2.2.2.1 iO) (fun eY=>(gd (bw (aD .i64 (zN (len cm)) 1)) (gd (bD (nN (aD .i64 (zN (len cm)) 1)) (len eY)) (bd (aT s.2.2.2.2.2.1 iO) (fun eA=>(k (((ae .i64 s.1.1 1),()),((),((),((),(s.2.2.2.2.1,((upd s.2.2.2.2.2.1 iO (some (aj (0,0) eA (nN (aD .i64 (zN (len cm)) 1)) (fun bW=>(bW.1,(ae .i64 (nth (0,0) jk (nN (aD .i64 (zN (len cm)) 1))).2 (nth (0,0) (cat (cat (tk (az (nN v0.1.1) 0) (dr 0 v1)) [(a1,a2)]) []) (nN s.1.1)).2)))))),()))))))))))))))))))))) (opt (nth (0,(0,none)) s.2.2.2.2.1 a0).2.2 (gd (bp (len [(nth (0,0) (cat (cat (tk (az (nN v0.1.1) 0) (dr 0 v1)) [(a1,a2)]) []) (nN s.1.1))]) 16777216) (k (((ae .i64 s.1.1 1),()),((),((),((),((aj (0,(0,none)) s.2.2.2.2.1 a0 (fun mL=>(mL.1,(mL.2.1,(some (len s.2.2.2.2.2.1)))))),((cat s.2.2.2.2.2.1 [(some [(nth (0,0) (cat (cat (tk (az (nN v0.1.1) 0) (dr 0 v1)) [(a1,a2)]) []) (nN s.1.1))])]),())))))))) (fun lK=>(bd (aT s.2.2.2.2.2.1 lK) (fun je=>(gd (bp (aK (len je) (len [(nth (0,0) (cat (cat (tk (az (nN v0.1.1) 0) (dr 0 v1)) [(a1,a2)]) []) (nN s.1.1))])) 16777216) (gd (bD lK (len s.2.2.2.2.2.1)) (k (((ae .i64 s.1.1 1),()),((),((),((),((aj (0,(0,none)) s.2.2.2.2.1 a0 (fun rB=>(rB.1,(rB.2.1,(some (len (upd s.2.2.2.2.2.1 lK none))))))),((cat (upd s.2.2.2.2.2.1 lK none) [(some (cat je [(nth (0,0) (cat (cat (tk (az (nN v0.1.1) 0) (dr 0 v1)) [(a1,a2)]) []) (nN s.1.1))]))]),())))))))))))))))))))))) (some ((0,()),(s.2.2.2.2.1,(s.2.2.2.2.2.1,())))))
def g.fX (a0:Nat) (a1:Int) (a2:Int) (v0:(List (Int×Int))) (v1:U9) (v2:(List (Int×Int))) (k:(K5→ya)) (s:K5):ya:=(br (aX s.1.1 (zN (len (cat [(a1,a2)] (tk (az (len v0) (nN v1.1.1)) (dr (nN v1.1.1) v2)))))) (gd (bw s.1.1) (gd (bD (nN s.1.1) (len (cat [(a1,a2)] (tk (az (len v0) (nN v1.1.1)) (dr (nN v1.1.1) v2))))) (opt (nth (0,(0,none)) s.2.2.2.2.1 a0).2.2 (jn (fun (k0:iU→_)=>(k0 ((false,()),((),((),((),())))))) (fun (s1:iU)=>(br s1.1.1 (opt (nth (0,(0,none)) s.2.2.2.2.1 a0).2.2 none (fun p2=>(bd (aT s.2.2.2.2.2.1 p2) (fun p3=>(gd (bw (-1)) (gd (bD 0 (len p3)) (bd (aT s.2.2.2.2.2.1 p2) (fun p4=>(bd (aT s.2.2.2.2.2.1 p2) (fun p5=>(gd (bw (-1)) (gd (bD 0 (len p5)) (bd (aT s.2.2.2.2.2.1 p2) (fun p6=>(k (((ae .i64 s.1.1 1),()),((),((),((),(s.2.2.2.2.1,((upd s.2.2.2.2.2.1 p2 (some (aj (0,0) p6 0 (fun r7=>(r7.1,(ae .i64 (nth (0,0) p4 0).2 (nth (0,0) (cat [(a1,a2)] (tk (az (len v0) (nN v1.1.1)) (dr (nN v1.1.1) v2))) (nN s.1.1)).2)))))),()))))))))))))))))))))) (opt (nth (0,(0,none)) s.2.2.2.2.1 a0).2.2 (gd (bp (len [(nth (0,0) (cat [(a1,a2)] (tk (az (len v0) (nN v1.1.1)) (dr (nN v1.1.1) v2))) (nN s.1.1))]) 16777216) (k (((ae .i64 s.1.1 1),()),((),((),((),((aj (0,(0,none)) s.2.2.2.2.1 a0 (fun r8=>(r8.1,(r8.2.1,(some (len s.2.2.2.2.2.1)))))),((cat s.2.2.2.2.2.1 [(some [(nth (0,0) (cat [(a1,a2)] (tk (az (len v0) (nN v1.1.1)) (dr (nN v1.1.1) v2))) (nN s.1.1))])]),())))))))) (fun p9=>(bd (aT s.2.2.2.2.2.1 p9) (fun dj=>(gd (bp (aK (len dj) (len [(nth (0,0) (cat [(a1,a2)] (tk (az (len v0) (nN v1.1.1)) (dr (nN v1.1.1) v2))) (nN s.1.1))])) 16777216) (gd (bD p9 (len s.2.2.2.2.2.1)) (k (((ae .i64 s.1.1 1),()),((),((),((),((aj (0,(0,none)) s.2.2.2.2.1 a0 (fun mL=>(mL.1,(mL.2.1,(some (len (upd s.2.2.2.2.2.1 p9 none))))))),((cat (upd s.2.2.2.2.2.1 p9 none) [(some (cat dj [(nth (0,0) (cat [(a1,a2)] (tk (az (len v0) (nN v1.1.1)) (dr (nN v1.1.1) v2))) (nN s.1.1))]))]),())))))))))))))))) (fun cw=>(bd (aT s.2.2.2.2.2.1 cw) (fun cm=>(jn (fun (tK:iU→_)=>(br (cW 0 (aD .i64 (zN (len cm)) 1)) (opt (nth (0,(0,none)) s.2.2.2.2.1 a0).2.2 none (fun dH=>(bd (aT s.2.2.2.2.2.1 dH) (fun eT=>(gd (bw (aD .i64 (zN (len cm)) 1)) (gd (bD (nN (aD .i64 (zN (len cm)) 1)) (len eT)) (bd (aT s.2.2.2.2.2.1 dH) (fun gf=>(opt (nth (0,(0,none)) s.2.2.2.2.1 a0).2.2 none (fun fj=>(bd (aT s.2.2.2.2.2.1 fj) (fun kB=>(gd (bw (aD .i64 (zN (len cm)) 1)) (gd (bD (nN (aD .i64 (zN (len cm)) 1)) (len kB)) (bd (aT s.2.2.2.2.2.1 fj) (fun dS=>(tK (((af (ae .i64 (nth (0,0) gf (nN (aD .i64 (zN (len cm)) 1))).1 (nth (0,0) dS (nN (aD .i64 (zN (len cm)) 1))).2) (nth (0,0) (cat [(a1,a2)] (tk (az (len v0) (nN v1.1.1)) (dr (nN v1.1.1) v2))) (nN s.1.1)).1),()),((),((),((),()))))))))))))))))))))) (tK ((false,()),((),((),((),()))))))) (fun (FO:iU)=>(br FO.1.1 (opt (nth (0,(0,none)) s.2.2.2.2.1 a0).2.2 none (fun iO=>(bd (aT s.2.2.2.2.2.1 iO) (fun fc=>(gd (bw (aD .i64 (zN (len cm)) 1)) (gd (bD (nN (aD .i64 (zN (len cm)) 1)) (len fc)) (bd (aT s.2.2.2.2.2.1 iO) (fun jk=>(bd (aT s.2.2.2.2.2.1 iO) (fun eY=>(gd (bw (aD .i64 (zN (len cm)) 1)) (gd (bD (nN (aD .i64 (zN (len cm)) 1)) (len eY)) (bd (aT s.2.2.2.2.2.1 iO) (fun eA=>(k (((ae .i64 s.1.1 1),()),((),((),((),(s.2.2.2.2.1,((upd s.2.2.2.2.2.1 iO (some (aj (0,0) eA (nN (aD .i64 (zN (len cm)) 1)) (fun bW=>(bW.1,(ae .i64 (nth (0,0) jk (nN (aD .i64 (zN (len cm)) 1))).2 (nth (0,0) (cat [(a1,a2)] (tk (az (len v0) (nN v1.1.1)) (dr (nN v1.1.1) v2))) (nN s.1.1)).2)))))),()))))))))))))))))))))) (opt (nth (0,(0,none)) s.2.2.2.2.1 a0).2.2 (gd (bp (len [(nth (0,0) (cat [(a1,a2)] (tk (az (len v0) (nN v1.1.1)) (dr (nN v1.1.1) v2))) (nN s.1.1))]) 16777216) (k (((ae .i64 s.1.1 1),()),((),((),((),((aj (0,(0,none)) s.2.2.2.2.1 a0 (fun mL=>(mL.1,(mL.2.1,(some (len s.2.2.2.2.2.1)))))),((cat s.2.2.2.2.2.1 [(some [(nth (0,0) (cat [(a1,a2)] (tk (az (len v0) (nN v1.1.1)) (dr (nN v1.1.1) v2))) (nN s.1.1))])]),())))))))) (fun lK=>(bd (aT s.2.2.2.2.2.1 lK) (fun je=>(gd (bp (aK (len je) (len [(nth (0,0) (cat [(a1,a2)] (tk (az (len v0) (nN v1.1.1)) (dr (nN v1.1.1) v2))) (nN s.1.1))])) 16777216) (gd (bD lK (len s.2.2.2.2.2.1)) (k (((ae .i64 s.1.1 1),()),((),((),((),((aj (0,(0,none)) s.2.2.2.2.1 a0 (fun rB=>(rB.1,(rB.2.1,(some (len (upd s.2.2.2.2.2.1 lK none))))))),((cat (upd s.2.2.2.2.2.1 lK none) [(some (cat je [(nth (0,0) (cat [(a1,a2)] (tk (az (len v0) (nN v1.1.1)) (dr (nN v1.1.1) v2))) (nN s.1.1))]))]),())))))))))))))))))))))) (some ((0,()),(s.2.2.2.2.1,(s.2.2.2.2.2.1,())))))
def g.fW (a0:Nat) (a1:Int) (a2:Int) (k:(K5→ya)) (s:K5):ya:=(br (aX s.1.1 (zN (len (cat [(a1,a2)] [])))) (gd (bw s.1.1) (gd (bD (nN s.1.1) (len (cat [(a1,a2)] []))) (opt (nth (0,(0,none)) s.2.2.2.2.1 a0).2.2 (jn (fun (k0:iU→_)=>(k0 ((false,()),((),((),((),())))))) (fun (s1:iU)=>(br s1.1.1 (opt (nth (0,(0,none)) s.2.2.2.2.1 a0).2.2 none (fun p2=>(bd (aT s.2.2.2.2.2.1 p2) (fun p3=>(gd (bw (-1)) (gd (bD 0 (len p3)) (bd (aT s.2.2.2.2.2.1 p2) (fun p4=>(bd (aT s.2.2.2.2.2.1 p2) (fun p5=>(gd (bw (-1)) (gd (bD 0 (len p5)) (bd (aT s.2.2.2.2.2.1 p2) (fun p6=>(k (((ae .i64 s.1.1 1),()),((),((),((),(s.2.2.2.2.1,((upd s.2.2.2.2.2.1 p2 (some (aj (0,0) p6 0 (fun r7=>(r7.1,(ae .i64 (nth (0,0) p4 0).2 (nth (0,0) (cat [(a1,a2)] []) (nN s.1.1)).2)))))),()))))))))))))))))))))) (opt (nth (0,(0,none)) s.2.2.2.2.1 a0).2.2 (gd (bp (len [(nth (0,0) (cat [(a1,a2)] []) (nN s.1.1))]) 16777216) (k (((ae .i64 s.1.1 1),()),((),((),((),((aj (0,(0,none)) s.2.2.2.2.1 a0 (fun r8=>(r8.1,(r8.2.1,(some (len s.2.2.2.2.2.1)))))),((cat s.2.2.2.2.2.1 [(some [(nth (0,0) (cat [(a1,a2)] []) (nN s.1.1))])]),())))))))) (fun p9=>(bd (aT s.2.2.2.2.2.1 p9) (fun dj=>(gd (bp (aK (len dj) (len [(nth (0,0) (cat [(a1,a2)] []) (nN s.1.1))])) 16777216) (gd (bD p9 (len s.2.2.2.2.2.1)) (k (((ae .i64 s.1.1 1),()),((),((),((),((aj (0,(0,none)) s.2.2.2.2.1 a0 (fun mL=>(mL.1,(mL.2.1,(some (len (upd s.2.2.2.2.2.1 p9 none))))))),((cat (upd s.2.2.2.2.2.1 p9 none) [(some (cat dj [(nth (0,0) (cat [(a1,a2)] []) (nN s.1.1))]))]),())))))))))))))))) (fun cw=>(bd (aT s.2.2.2.2.2.1 cw) (fun cm=>(jn (fun (tK:iU→_)=>(br (cW 0 (aD .i64 (zN (len cm)) 1)) (opt (nth (0,(0,none)) s.2.2.2.2.1 a0).2.2 none (fun dH=>(bd (aT s.2.2.2.2.2.1 dH) (fun eT=>(gd (bw (aD .i64 (zN (len cm)) 1)) (gd (bD (nN (aD .i64 (zN (len cm)) 1)) (len eT)) (bd (aT s.2.2.2.2.2.1 dH) (fun gf=>(opt (nth (0,(0,none)) s.2.2.2.2.1 a0).2.2 none (fun fj=>(bd (aT s.2.2.2.2.2.1 fj) (fun kB=>(gd (bw (aD .i64 (zN (len cm)) 1)) (gd (bD (nN (aD .i64 (zN (len cm)) 1)) (len kB)) (bd (aT s.2.2.2.2.2.1 fj) (fun dS=>(tK (((af (ae .i64 (nth (0,0) gf (nN (aD .i64 (zN (len cm)) 1))).1 (nth (0,0) dS (nN (aD .i64 (zN (len cm)) 1))).2) (nth (0,0) (cat [(a1,a2)] []) (nN s.1.1)).1),()),((),((),((),()))))))))))))))))))))) (tK ((false,()),((),((),((),()))))))) (fun (FO:iU)=>(br FO.1.1 (opt (nth (0,(0,none)) s.2.2.2.2.1 a0).2.2 none (fun iO=>(bd (aT s.2.2.2.2.2.1 iO) (fun fc=>(gd (bw (aD .i64 (zN (len cm)) 1)) (gd (bD (nN (aD .i64 (zN (len cm)) 1)) (len fc)) (bd (aT s.2.2.2.2.2.1 iO) (fun jk=>(bd (aT s.2.2.2.2.2.1 iO) (fun eY=>(gd (bw (aD .i64 (zN (len cm)) 1)) (gd (bD (nN (aD .i64 (zN (len cm)) 1)) (len eY)) (bd (aT s.2.2.2.2.2.1 iO) (fun eA=>(k (((ae .i64 s.1.1 1),()),((),((),((),(s.2.2.2.2.1,((upd s.2.2.2.2.2.1 iO (some (aj (0,0) eA (nN (aD .i64 (zN (len cm)) 1)) (fun bW=>(bW.1,(ae .i64 (nth (0,0) jk (nN (aD .i64 (zN (len cm)) 1))).2 (nth (0,0) (cat [(a1,a2)] []) (nN s.1.1)).2)))))),()))))))))))))))))))))) (opt (nth (0,(0,none)) s.2.2.2.2.1 a0).2.2 (gd (bp (len [(nth (0,0) (cat [(a1,a2)] []) (nN s.1.1))]) 16777216) (k (((ae .i64 s.1.1 1),()),((),((),((),((aj (0,(0,none)) s.2.2.2.2.1 a0 (fun mL=>(mL.1,(mL.2.1,(some (len s.2.2.2.2.2.1)))))),((cat s.2.2.2.2.2.1 [(some [(nth (0,0) (cat [(a1,a2)] []) (nN s.1.1))])]),())))))))) (fun lK=>(bd (aT s.2.2.2.2.2.1 lK) (fun je=>(gd (bp (aK (len je) (len [(nth (0,0) (cat [(a1,a2)] []) (nN s.1.1))])) 16777216) (gd (bD lK (len s.2.2.2.2.2.1)) (k (((ae .i64 s.1.1 1),()),((),((),((),((aj (0,(0,none)) s.2.2.2.2.1 a0 (fun rB=>(rB.1,(rB.2.1,(some (len (upd s.2.2.2.2.2.1 lK none))))))),((cat (upd s.2.2.2.2.2.1 lK none) [(some (cat je [(nth (0,0) (cat [(a1,a2)] []) (nN s.1.1))]))]),())))))))))))))))))))))) (some ((0,()),(s.2.2.2.2.1,(s.2.2.2.2.2.1,())))))
def g.de (a1:Int) (d1:T4) (v0:(List (Int×Int))) (v1:Nat) (v2:U9→ya) (k:(U9→ya)) (s:U9):ya:=(br (aX s.1.1 (zN (len v0))) (bd (aT d1 v1) (fun p0=>(gd (bw s.1.1) (gd (bD (nN s.1.1) (len p0)) (bd (aT d1 v1) (fun p1=>(br (aX a1 (ae .i64 (nth (0,0) p1 (nN s.1.1)).1 (nth (0,0) p1 (nN s.1.1)).2)) (v2 ((s.1.1,()),((),((),((),()))))) (k (((ae .i64 s.1.1 1),()),((),((),((),())))))))))))) (v2 (((-1),()),((),((),((),()))))))
def g.ir (v0:U9→ya) (k:(U9→ya)) (s:U9):ya:=(br (aX s.1.1 0) none (v0 (((-1),()),((),((),((),()))))))
def g.cL (a0:Nat) (a1:Int) (a2:Int) (d0:T3) (d1:T4):ya:=(jn (fun (k0:(Unit×U2)→_)=>(br (aX a2 1) (some ((1,()),(d0,(d1,())))) (br (ax (af (dB a2 8) 0)) (some ((1,()),(d0,(d1,())))) (br (ax (af (dB a1 8) 0)) (some ((1,()),(d0,(d1,())))) (bd (g.ab a1 (nth (0,(0,none)) d0 a0).1 (aD .i64 (nth (0,(0,none)) d0 a0).2.1 1)) (fun p1=>(br (ax p1.1.1) (some ((1,()),(d0,(d1,())))) (br (aX (aD .i64 (nth (0,(0,none)) d0 a0).2.1 a1) a2) (some ((1,()),(d0,(d1,())))) (k0 ((),((),((),((),()))))))))))))) (fun (s2:(Unit×U2))=>(jn (fun (k3:U9→_)=>(opt (nth (0,(0,none)) d0 a0).2.2 (loop (g.ir k3) ((0,()),((),((),((),()))))) (fun p6=>(bd (aT d1 p6) (fun p7=>(loop (g.de a1 d1 p7 p6 k3) ((0,()),((),((),((),())))))))))) (fun (Ya:U9)=>(jn (fun (SM:U9→_)=>(br (aX Ya.1.1 0) (opt (nth (0,(0,none)) d0 a0).2.2 (SM ((0,()),((),((),((),()))))) (fun jZ=>(bd (aT d1 jZ) (fun dH=>(SM (((zN (len dH)),()),((),((),((),()))))))))) (SM ((Ya.1.1,()),((),((),((),()))))))) (fun (cd:U9)=>(jn (fun (Hn:(Unit×U2)→_)=>(opt (nth (0,(0,none)) d0 a0).2.2 (br (aX cd.1.1 0) (opt (nth (0,(0,none)) d0 a0).2.2 none (fun fj=>(bd (aT d1 fj) (fun kB=>(gd (bw cd.1.1) (gd (bD (nN cd.1.1) (len kB)) (bd (aT d1 fj) (fun dS=>(br (aX (nth (0,0) dS (nN cd.1.1)).1 (ae .i64 a1 a2)) (some ((1,()),(d0,(d1,())))) (Hn ((),((),((),((),())))))))))))))) (Hn ((),((),((),((),())))))) (fun lN=>(bd (aT d1 lN) (fun iO=>(br (aX cd.1.1 (zN (len iO))) (opt (nth (0,(0,none)) d0 a0).2.2 none (fun fc=>(bd (aT d1 fc) (fun jk=>(gd (bw cd.1.1) (gd (bD (nN cd.1.1) (len jk)) (bd (aT d1 fc) (fun eY=>(br (aX (nth (0,0) eY (nN cd.1.1)).1 (ae .i64 a1 a2)) (some ((1,()),(d0,(d1,())))) (Hn ((),((),((),((),())))))))))))))) (Hn ((),((),((),((),()))))))))))) (fun (s26:(Unit×U2))=>(opt (nth (0,(0,none)) d0 a0).2.2 (gd (Hu cd.1.1 cd.1.1) (gd (bw cd.1.1) (gd (bp 0 (nN cd.1.1)) (gd (bp (nN cd.1.1) 0) (gd (bp (len [(a1,a2)]) 16777216) (opt (nth (0,(0,none)) d0 a0).2.2 (gd (bw cd.1.1) (gd (bp (nN cd.1.1) 0) (gd (bp (aK (len [(a1,a2)]) 0) 16777216) (loop (g.fW a0 a1 a2) ((0,()),((),((),((),((aj (0,(0,none)) d0 a0 (fun r9=>(r9.1,(r9.2.1,none)))),(d1,())))))))))) (fun wF=>(bd (aT d1 wF) (fun ve=>(gd (bw cd.1.1) (gd (bp (nN cd.1.1) (len ve)) (gd (bp (len ve) (len ve)) (bd (aT d1 wF) (fun FP=>(gd (bp (aK (len [(a1,a2)]) (len (tk (az (len ve) (nN cd.1.1)) (dr (nN cd.1.1) FP)))) 16777216) (loop (g.fX a0 a1 a2 ve cd FP) ((0,()),((),((),((),((aj (0,(0,none)) d0 a0 (fun CY=>(CY.1,(CY.2.1,none)))),(d1,())))))))))))))))))))))) (fun p86=>(gd (Hu cd.1.1 cd.1.1) (bd (aT d1 p86) (fun p87=>(gd (bw cd.1.1) (gd (bp 0 (nN cd.1.1)) (gd (bp (nN cd.1.1) (len p87)) (br (af (zN (az (nN cd.1.1) 0)) 0) (gd (bp (len [(a1,a2)]) 16777216) (opt (nth (0,(0,none)) d0 a0).2.2 (gd (bw cd.1.1) (gd (bp (nN cd.1.1) 0) (gd (bp (aK (len [(a1,a2)]) 0) 16777216) (loop (g.fW a0 a1 a2) ((0,()),((),((),((),((aj (0,(0,none)) d0 a0 (fun mL=>(mL.1,(mL.2.1,none)))),(d1,())))))))))) (fun Sm=>(bd (aT d1 Sm) (fun Dg=>(gd (bw cd.1.1) (gd (bp (nN cd.1.1) (len Dg)) (gd (bp (len Dg) (len Dg)) (bd (aT d1 Sm) (fun Sl=>(gd (bp (aK (len [(a1,a2)]) (len (tk (az (len Dg) (nN cd.1.1)) (dr (nN cd.1.1) Sl)))) 16777216) (loop (g.fX a0 a1 a2 Dg cd Sl) ((0,()),((),((),((),((aj (0,(0,none)) d0 a0 (fun lq=>(lq.1,(lq.2.1,none)))),(d1,())))))))))))))))))) (bd (aT d1 p86) (fun GR=>(gd (bD 0 (len [(a1,a2)])) (gd (bp (aK (az (nN cd.1.1) 0) (len [(a1,a2)])) 16777216) (opt (nth (0,(0,none)) d0 a0).2.2 (gd (bw cd.1.1) (gd (bp (nN cd.1.1) 0) (gd (bp (aK (len (cat (tk (az (nN cd.1.1) 0) (dr 0 GR)) [(a1,a2)])) 0) 16777216) (loop (g.lG a0 a1 a2 cd GR) ((0,()),((),((),((),((aj (0,(0,none)) d0 a0 (fun CY=>(CY.1,(CY.2.1,none)))),(d1,())))))))))) (fun Sk=>(bd (aT d1 Sk) (fun Df=>(gd (bw cd.1.1) (gd (bp (nN cd.1.1) (len Df)) (gd (bp (len Df) (len Df)) (bd (aT d1 Sk) (fun Sj=>(gd (bp (aK (len (cat (tk (az (nN cd.1.1) 0) (dr 0 GR)) [(a1,a2)])) (len (tk (az (len Df) (nN cd.1.1)) (dr (nN cd.1.1) Sj)))) 16777216) (loop (g.iu a0 a1 a2 cd GR Df Sj) ((0,()),((),((),((),((aj (0,(0,none)) d0 a0 (fun uE=>(uE.1,(uE.2.1,none)))),(d1,()))))))))))))))))))))))))))))))))))))))
def ab9:Plain J7:=fun x c d=>g.cL x.1 x.2.1 x.2.2.1 d.1 d.2.1
theorem V3:bB Tryz.prog 133 J7 ab9:=bU (ao lI (aO)) fun x c d=>by kernel_rfl
def J6:dI:=⟨[(true,(.pair (.ptr 1) (.pair (.pair (.int .i64) (.pair (.int .i64) (.pair (.int .i64) (.int .i64)))) (.int .i64)))),(false,(.int .i64))],[(false,(.int .u64))],[(1,R1),(2,R2)],[]⟩
def g.fL (a0:((Option Nat)×(U4×Int))) (a1:Int) (c0:T1) (c1:T2):pM:=(bd (g.cQ a0.2.1 a1 a0.2.2) (fun p0=>(opt a0.1 none (fun p1=>(bd (g.aQ p1 p0.1.1 c0 c1) (fun p2=>(some ((p2.1.1,()),()))))))))
def ab8:Plain J6:=fun x c d=>g.fL x.1 x.2.1 c.1 c.2.1
theorem V2:bB Tryz.prog 134 J6 ab8:=bU (ao xW (ao oi (aO))) fun x c d=>by kernel_rfl
def Q9:dI:=⟨[(true,(.pair (.ptr 1) (.pair (.pair (.int .i64) (.pair (.int .i64) (.pair (.int .i64) (.int .i64)))) (.int .i64)))),(false,(.db 3))],[(false,(.int .i64))],[(1,R1)],[(2,R2),(3,R3),(4,R4)]⟩
def g.gQ (a0:((Option Nat)×(U4×Int))) (a1:Nat) (c0:T1) (d0:T2) (d1:T3) (d2:T4):(Option ((Int×Unit)×(T2×l_))):=(opt a0.1 none (fun p0=>(bd (g.fR a0.2.1 p0 a0.2.2 c0 d0) (fun p1=>(br (af p1.1.1.1 0) (some ((11,()),(d0,(d1,(d2,()))))) (br (af p1.1.1.1 1) (bd (g.fL a0 1 c0 d0) (fun p2=>(bd (g.fL a0 2 c0 d0) (fun p3=>(bd (g.cL a1 (cJ .i64 p2.1.1) (cJ .i64 p3.1.1) d1 d2) (fun p4=>(bd (g.bA a0 (0,(0,((-1),(bits .and .i64 (ae .i64 p1.1.1.2.2.2 1) 16777215)))) c0 d0) (fun p5=>(bd (g.aE a0 1 0 c0 p5.2.1) (fun p6=>(bd (g.aE a0 2 0 c0 p6.2.1) (fun p7=>(some ((0,()),(p7.2.1,(p4.2.1,(p4.2.2.1,()))))))))))))))))) (some ((12,()),(d0,(d1,(d2,())))))))))))
def F93:Plain Q9:=fun x c d=>g.gQ x.1 x.2.1 c.1 d.1 d.2.1 d.2.2.1
theorem aa5:bB Tryz.prog 93 Q9 F93:=bU (ao MO (ao Ia (ao H_ (ao V3 (ao V2 (aO)))))) fun x c d=>by kernel_rfl
def Q6:dI:=⟨[(false,(.db 3)),(false,(.int .i64))],[(false,(.int .i64)),(false,.bool)],[],[(3,R3),(4,R4)]⟩
def g.bS (a1:Int) (d1:T4) (v0:(List (Int×Int))) (v1:Nat) (v2:U9→(Option ((Int×(Bool×Unit))×l_))) (k:(U9→(Option ((Int×(Bool×Unit))×l_)))) (s:U9):(Option ((Int×(Bool×Unit))×l_)):=(br (aX s.1.1 (zN (len v0))) (bd (aT d1 v1) (fun p0=>(gd (bw s.1.1) (gd (bD (nN s.1.1) (len p0)) (bd (aT d1 v1) (fun p1=>(br (cW a1 (nth (0,0) p1 (nN s.1.1)).2) (v2 ((s.1.1,()),((),((),((),()))))) (k (((ae .i64 s.1.1 1),()),((),((),((),())))))))))))) (v2 (((-1),()),((),((),((),()))))))
def g.dY (v0:U9→(Option ((Int×(Bool×Unit))×l_))) (k:(U9→(Option ((Int×(Bool×Unit))×l_)))) (s:U9):(Option ((Int×(Bool×Unit))×l_)):=(br (aX s.1.1 0) none (v0 (((-1),()),((),((),((),()))))))
def g.bJ (a0:Nat) (a1:Int) (d0:T3) (d1:T4):(Option ((Int×(Bool×Unit))×l_)):=(jn (fun (k0:(Unit×U2)→_)=>(br (aX a1 1) (some ((0,(false,())),(d0,(d1,())))) (br (ax (af (dB a1 8) 0)) (some ((0,(false,())),(d0,(d1,())))) (k0 ((),((),((),((),())))))))) (fun (s1:(Unit×U2))=>(jn (fun (k2:U9→_)=>(opt (nth (0,(0,none)) d0 a0).2.2 (loop (g.dY k2) ((0,()),((),((),((),()))))) (fun p5=>(bd (aT d1 p5) (fun p6=>(loop (g.bS a1 d1 p6 p5 k2) ((0,()),((),((),((),())))))))))) (fun (aG:U9)=>(br (aX aG.1.1 0) (some ((0,(false,())),(d0,(d1,())))) (opt (nth (0,(0,none)) d0 a0).2.2 none (fun cw=>(bd (aT d1 cw) (fun cm=>(gd (bw aG.1.1) (gd (bD (nN aG.1.1) (len cm)) (bd (aT d1 cw) (fun jZ=>(bd (aT d1 cw) (fun dH=>(bd (aT d1 cw) (fun eT=>(bd (aT d1 cw) (fun gf=>(bd (aT (upd d1 cw (some (aj (0,0) gf (nN aG.1.1) (fun CY=>((ae .i64 (nth (0,0) dH (nN aG.1.1)).1 a1),CY.2))))) cw) (fun fj=>(bd (aT (upd (upd d1 cw (some (aj (0,0) gf (nN aG.1.1) (fun GB=>((ae .i64 (nth (0,0) dH (nN aG.1.1)).1 a1),GB.2))))) cw (some (aj (0,0) fj (nN aG.1.1) (fun GB=>(GB.1,(aD .i64 (nth (0,0) eT (nN aG.1.1)).2 a1)))))) cw) (fun kB=>(br (af (nth (0,0) kB (nN aG.1.1)).2 0) (opt (nth (0,(0,none)) d0 a0).2.2 (gd (Hu 0 (ae .i64 aG.1.1 1)) (gd (bw aG.1.1) (gd (bw (ae .i64 aG.1.1 1)) (gd (bp (nN aG.1.1) (nN (ae .i64 aG.1.1 1))) (gd (bp (nN (ae .i64 aG.1.1 1)) 0) (br (af aG.1.1 (ae .i64 aG.1.1 1)) (some (((nth (0,0) jZ (nN aG.1.1)).1,(true,())),((aj (0,(0,none)) d0 a0 (fun lq=>(lq.1,(lq.2.1,none)))),((upd (upd d1 cw (some (aj (0,0) gf (nN aG.1.1) (fun lq=>((ae .i64 (nth (0,0) dH (nN aG.1.1)).1 a1),lq.2))))) cw (some (aj (0,0) fj (nN aG.1.1) (fun lq=>(lq.1,(aD .i64 (nth (0,0) eT (nN aG.1.1)).2 a1)))))),())))) (gd (bw aG.1.1) (gd (bp 0 (nN aG.1.1)) (gd (bp (nN aG.1.1) 0) (gd (bw (ae .i64 aG.1.1 1)) (gd (bp (nN (ae .i64 aG.1.1 1)) 0) (gd (bD 0 0) (some (((nth (0,0) jZ (nN aG.1.1)).1,(true,())),((aj (0,(0,none)) d0 a0 (fun lq=>(lq.1,(lq.2.1,(some (len (upd (upd d1 cw (some (aj (0,0) gf (nN aG.1.1) (fun uE=>((ae .i64 (nth (0,0) dH (nN aG.1.1)).1 a1),uE.2))))) cw (some (aj (0,0) fj (nN aG.1.1) (fun uE=>(uE.1,(aD .i64 (nth (0,0) eT (nN aG.1.1)).2 a1)))))))))))),((cat (upd (upd d1 cw (some (aj (0,0) gf (nN aG.1.1) (fun lq=>((ae .i64 (nth (0,0) dH (nN aG.1.1)).1 a1),lq.2))))) cw (some (aj (0,0) fj (nN aG.1.1) (fun lq=>(lq.1,(aD .i64 (nth (0,0) eT (nN aG.1.1)).2 a1)))))) [(some (cat (tk 0 []) (cat (rep (α:=(Int×Int)) 0 (0,0)) (dr 0 []))))]),())))))))))))))))) (fun dS=>(bd (aT (upd (upd d1 cw (some (aj (0,0) gf (nN aG.1.1) (fun uE=>((ae .i64 (nth (0,0) dH (nN aG.1.1)).1 a1),uE.2))))) cw (some (aj (0,0) fj (nN aG.1.1) (fun uE=>(uE.1,(aD .i64 (nth (0,0) eT (nN aG.1.1)).2 a1)))))) dS) (fun lN=>(bd (aT (upd (upd d1 cw (some (aj (0,0) gf (nN aG.1.1) (fun Ls=>((ae .i64 (nth (0,0) dH (nN aG.1.1)).1 a1),Ls.2))))) cw (some (aj (0,0) fj (nN aG.1.1) (fun Ls=>(Ls.1,(aD .i64 (nth (0,0) eT (nN aG.1.1)).2 a1)))))) dS) (fun iO=>(gd (bw aG.1.1) (gd (bw (ae .i64 aG.1.1 1)) (gd (bw (zN (len lN))) (gd (bp (nN aG.1.1) (nN (ae .i64 aG.1.1 1))) (gd (bp (nN (ae .i64 aG.1.1 1)) (nN (zN (len lN)))) (gd (bp (nN (zN (len lN))) (len iO)) (br (af aG.1.1 (ae .i64 aG.1.1 1)) (some (((nth (0,0) jZ (nN aG.1.1)).1,(true,())),((aj (0,(0,none)) d0 a0 (fun rM=>(rM.1,(rM.2.1,(some dS))))),((upd (upd d1 cw (some (aj (0,0) gf (nN aG.1.1) (fun rM=>((ae .i64 (nth (0,0) dH (nN aG.1.1)).1 a1),rM.2))))) cw (some (aj (0,0) fj (nN aG.1.1) (fun rM=>(rM.1,(aD .i64 (nth (0,0) eT (nN aG.1.1)).2 a1)))))),())))) (bd (aT (upd (upd d1 cw (some (aj (0,0) gf (nN aG.1.1) (fun rM=>((ae .i64 (nth (0,0) dH (nN aG.1.1)).1 a1),rM.2))))) cw (some (aj (0,0) fj (nN aG.1.1) (fun rM=>(rM.1,(aD .i64 (nth (0,0) eT (nN aG.1.1)).2 a1)))))) dS) (fun fc=>(bd (aT (upd (upd d1 cw (some (aj (0,0) gf (nN aG.1.1) (fun Lr=>((ae .i64 (nth (0,0) dH (nN aG.1.1)).1 a1),Lr.2))))) cw (some (aj (0,0) fj (nN aG.1.1) (fun Lr=>(Lr.1,(aD .i64 (nth (0,0) eT (nN aG.1.1)).2 a1)))))) dS) (fun jk=>(gd (bw aG.1.1) (gd (bp 0 (nN aG.1.1)) (gd (bp (nN aG.1.1) (len jk)) (bd (aT (upd (upd d1 cw (some (aj (0,0) gf (nN aG.1.1) (fun qv=>((ae .i64 (nth (0,0) dH (nN aG.1.1)).1 a1),qv.2))))) cw (some (aj (0,0) fj (nN aG.1.1) (fun qv=>(qv.1,(aD .i64 (nth (0,0) eT (nN aG.1.1)).2 a1)))))) dS) (fun eY=>(gd (bw (ae .i64 aG.1.1 1)) (gd (bp (nN (ae .i64 aG.1.1 1)) (len eY)) (gd (bp (len eY) (len eY)) (bd (aT (upd (upd d1 cw (some (aj (0,0) gf (nN aG.1.1) (fun kz=>((ae .i64 (nth (0,0) dH (nN aG.1.1)).1 a1),kz.2))))) cw (some (aj (0,0) fj (nN aG.1.1) (fun kz=>(kz.1,(aD .i64 (nth (0,0) eT (nN aG.1.1)).2 a1)))))) dS) (fun eA=>(bd (aT (upd (upd d1 cw (some (aj (0,0) gf (nN aG.1.1) (fun gm=>((ae .i64 (nth (0,0) dH (nN aG.1.1)).1 a1),gm.2))))) cw (some (aj (0,0) fj (nN aG.1.1) (fun gm=>(gm.1,(aD .i64 (nth (0,0) eT (nN aG.1.1)).2 a1)))))) dS) (fun lF=>(gd (bp (aK (az (nN aG.1.1) 0) (len (tk (az (len eY) (nN (ae .i64 aG.1.1 1))) (dr (nN (ae .i64 aG.1.1 1)) eA)))) (len lF)) (bd (aT (upd (upd (upd d1 cw (some (aj (0,0) gf (nN aG.1.1) (fun cZ=>((ae .i64 (nth (0,0) dH (nN aG.1.1)).1 a1),cZ.2))))) cw (some (aj (0,0) fj (nN aG.1.1) (fun cZ=>(cZ.1,(aD .i64 (nth (0,0) eT (nN aG.1.1)).2 a1)))))) dS (some (cat (tk (az (nN aG.1.1) 0) lF) (cat (tk (az (len eY) (nN (ae .i64 aG.1.1 1))) (dr (nN (ae .i64 aG.1.1 1)) eA)) (dr (aK (az (nN aG.1.1) 0) (len (tk (az (len eY) (nN (ae .i64 aG.1.1 1))) (dr (nN (ae .i64 aG.1.1 1)) eA)))) lF))))) dS) (fun lK=>(gd (bw (zN (aK (az (nN aG.1.1) 0) (len (tk (az (len eY) (nN (ae .i64 aG.1.1 1))) (dr (nN (ae .i64 aG.1.1 1)) eA)))))) (gd (bw (zN (len fc))) (gd (bp (nN (zN (aK (az (nN aG.1.1) 0) (len (tk (az (len eY) (nN (ae .i64 aG.1.1 1))) (dr (nN (ae .i64 aG.1.1 1)) eA)))))) (nN (zN (len fc)))) (gd (bp (aK 0 (nN (zN (len fc)))) (len lK)) (bd (aT (upd (upd (upd d1 cw (some (aj (0,0) gf (nN aG.1.1) (fun b9=>((ae .i64 (nth (0,0) dH (nN aG.1.1)).1 a1),b9.2))))) cw (some (aj (0,0) fj (nN aG.1.1) (fun b9=>(b9.1,(aD .i64 (nth (0,0) eT (nN aG.1.1)).2 a1)))))) dS (some (cat (tk (az (nN aG.1.1) 0) lF) (cat (tk (az (len eY) (nN (ae .i64 aG.1.1 1))) (dr (nN (ae .i64 aG.1.1 1)) eA)) (dr (aK (az (nN aG.1.1) 0) (len (tk (az (len eY) (nN (ae .i64 aG.1.1 1))) (dr (nN (ae .i64 aG.1.1 1)) eA)))) lF))))) dS) (fun je=>(gd (bD 0 (az (nN (zN (len fc))) (nN (zN (aK (az (nN aG.1.1) 0) (len (tk (az (len eY) (nN (ae .i64 aG.1.1 1))) (dr (nN (ae .i64 aG.1.1 1)) eA)))))))) (bd (aT (upd (upd (upd (upd d1 cw (some (aj (0,0) gf (nN aG.1.1) (fun bH=>((ae .i64 (nth (0,0) dH (nN aG.1.1)).1 a1),bH.2))))) cw (some (aj (0,0) fj (nN aG.1.1) (fun bH=>(bH.1,(aD .i64 (nth (0,0) eT (nN aG.1.1)).2 a1)))))) dS (some (cat (tk (az (nN aG.1.1) 0) lF) (cat (tk (az (len eY) (nN (ae .i64 aG.1.1 1))) (dr (nN (ae .i64 aG.1.1 1)) eA)) (dr (aK (az (nN aG.1.1) 0) (len (tk (az (len eY) (nN (ae .i64 aG.1.1 1))) (dr (nN (ae .i64 aG.1.1 1)) eA)))) lF))))) dS (some (cat (tk (aK 0 (nN (zN (aK (az (nN aG.1.1) 0) (len (tk (az (len eY) (nN (ae .i64 aG.1.1 1))) (dr (nN (ae .i64 aG.1.1 1)) eA))))))) je) (cat (rep (α:=(Int×Int)) (az (nN (zN (len fc))) (nN (zN (aK (az (nN aG.1.1) 0) (len (tk (az (len eY) (nN (ae .i64 aG.1.1 1))) (dr (nN (ae .i64 aG.1.1 1)) eA))))))) (0,0)) (dr (aK (aK 0 (nN (zN (aK (az (nN aG.1.1) 0) (len (tk (az (len eY) (nN (ae .i64 aG.1.1 1))) (dr (nN (ae .i64 aG.1.1 1)) eA))))))) (az (nN (zN (len fc))) (nN (zN (aK (az (nN aG.1.1) 0) (len (tk (az (len eY) (nN (ae .i64 aG.1.1 1))) (dr (nN (ae .i64 aG.1.1 1)) eA)))))))) je))))) dS) (fun LG=>(some (((nth (0,0) jZ (nN aG.1.1)).1,(true,())),((aj (0,(0,none)) d0 a0 (fun bo=>(bo.1,(bo.2.1,(some (len (upd (upd (upd (upd d1 cw (some (aj (0,0) gf (nN aG.1.1) (fun cC=>((ae .i64 (nth (0,0) dH (nN aG.1.1)).1 a1),cC.2))))) cw (some (aj (0,0) fj (nN aG.1.1) (fun cC=>(cC.1,(aD .i64 (nth (0,0) eT (nN aG.1.1)).2 a1)))))) dS (some (cat (tk (az (nN aG.1.1) 0) lF) (cat (tk (az (len eY) (nN (ae .i64 aG.1.1 1))) (dr (nN (ae .i64 aG.1.1 1)) eA)) (dr (aK (az (nN aG.1.1) 0) (len (tk (az (len eY) (nN (ae .i64 aG.1.1 1))) (dr (nN (ae .i64 aG.1.1 1)) eA)))) lF))))) dS (some (cat (tk (aK 0 (nN (zN (aK (az (nN aG.1.1) 0) (len (tk (az (len eY) (nN (ae .i64 aG.1.1 1))) (dr (nN (ae .i64 aG.1.1 1)) eA))))))) je) (cat (rep (α:=(Int×Int)) (az (nN (zN (len fc))) (nN (zN (aK (az (nN aG.1.1) 0) (len (tk (az (len eY) (nN (ae .i64 aG.1.1 1))) (dr (nN (ae .i64 aG.1.1 1)) eA))))))) (0,0)) (dr (aK (aK 0 (nN (zN (aK (az (nN aG.1.1) 0) (len (tk (az (len eY) (nN (ae .i64 aG.1.1 1))) (dr (nN (ae .i64 aG.1.1 1)) eA))))))) (az (nN (zN (len fc))) (nN (zN (aK (az (nN aG.1.1) 0) (len (tk (az (len eY) (nN (ae .i64 aG.1.1 1))) (dr (nN (ae .i64 aG.1.1 1)) eA)))))))) je))))))))))),((cat (upd (upd (upd (upd (upd d1 cw (some (aj (0,0) gf (nN aG.1.1) (fun bo=>((ae .i64 (nth (0,0) dH (nN aG.1.1)).1 a1),bo.2))))) cw (some (aj (0,0) fj (nN aG.1.1) (fun bo=>(bo.1,(aD .i64 (nth (0,0) eT (nN aG.1.1)).2 a1)))))) dS (some (cat (tk (az (nN aG.1.1) 0) lF) (cat (tk (az (len eY) (nN (ae .i64 aG.1.1 1))) (dr (nN (ae .i64 aG.1.1 1)) eA)) (dr (aK (az (nN aG.1.1) 0) (len (tk (az (len eY) (nN (ae .i64 aG.1.1 1))) (dr (nN (ae .i64 aG.1.1 1)) eA)))) lF))))) dS (some (cat (tk (aK 0 (nN (zN (aK (az (nN aG.1.1) 0) (len (tk (az (len eY) (nN (ae .i64 aG.1.1 1))) (dr (nN (ae .i64 aG.1.1 1)) eA))))))) je) (cat (rep (α:=(Int×Int)) (az (nN (zN (len fc))) (nN (zN (aK (az (nN aG.1.1) 0) (len (tk (az (len eY) (nN (ae .i64 aG.1.1 1))) (dr (nN (ae .i64 aG.1.1 1)) eA))))))) (0,0)) (dr (aK (aK 0 (nN (zN (aK (az (nN aG.1.1) 0) (len (tk (az (len eY) (nN (ae .i64 aG.1.1 1))) (dr (nN (ae .i64 aG.1.1 1)) eA))))))) (az (nN (zN (len fc))) (nN (zN (aK (az (nN aG.1.1) 0) (len (tk (az (len eY) (nN (ae .i64 aG.1.1 1))) (dr (nN (ae .i64 aG.1.1 1)) eA)))))))) je))))) dS none) [(some (tk (aK (az (nN aG.1.1) 0) (len (tk (az (len eY) (nN (ae .i64 aG.1.1 1))) (dr (nN (ae .i64 aG.1.1 1)) eA)))) LG))]),()))))))))))))))))))))))))))))))))))))))))))))) (some (((nth (0,0) jZ (nN aG.1.1)).1,(true,())),(d0,((upd (upd d1 cw (some (aj (0,0) gf (nN aG.1.1) (fun lq=>((ae .i64 (nth (0,0) dH (nN aG.1.1)).1 a1),lq.2))))) cw (some (aj (0,0) fj (nN aG.1.1) (fun lq=>(lq.1,(aD .i64 (nth (0,0) eT (nN aG.1.1)).2 a1)))))),()))))))))))))))))))))))))))))
def F96:Plain Q6:=fun x c d=>g.bJ x.1 x.2.1 d.1 d.2.1
theorem aa4:bB Tryz.prog 96 Q6 F96:=bU (aO) fun x c d=>by kernel_rfl
def Rp:dI:=⟨[(true,(.pair (.int .i64) (.pair (.int .i64) (.pair (.int .i64) (.int .i64))))),(false,(.db 1)),(false,(.db 3)),(true,(.pair (.pair (.int .u8) (.pair (.int .u8) (.pair (.int .u8) (.pair (.int .u8) (.pair (.int .i64) (.pair (.int .i64) (.int .i64))))))) (.pair (.int .i64) (.pair (.int .i64) (.pair (.int .u64) (.pair (.int .u64) (.pair (.aI (.pair (.int .i64) .bool)) (.pair (.int .u64) (.pair (.int .u64) (.pair (.int .i64) (.pair (.int .i64) (.pair (.aI (.int .i64)) (.pair (.int .i64) (.pair (.aI (.int .i64)) (.pair (.int .i64) (.pair .bool (.pair .bool (.pair .bool (.pair (.int .i64) (.pair (.int .i64) (.aI (.int .i64))))))))))))))))))))))],[(true,(.pair (.pair (.int .u8) (.pair (.int .u8) (.pair (.int .u8) (.pair (.int .u8) (.pair (.int .i64) (.pair (.int .i64) (.int .i64))))))) (.pair (.int .i64) (.pair (.int .i64) (.pair (.int .u64) (.pair (.int .u64) (.pair (.aI (.pair (.int .i64) .bool)) (.pair (.int .u64) (.pair (.int .u64) (.pair (.int .i64) (.pair (.int .i64) (.pair (.aI (.int .i64)) (.pair (.int .i64) (.pair (.aI (.int .i64)) (.pair (.int .i64) (.pair .bool (.pair .bool (.pair .bool (.pair (.int .i64) (.pair (.int .i64) (.aI (.int .i64)))))))))))))))))))))),(false,(.int .i64))],[(1,R1)],[(2,R2),(3,R3),(4,R4)]⟩
def g.iJ (a0:U4) (a1:Nat) (a2:Nat) (a3:U1) (c0:T1) (k:(((Int×Unit)×(Unit×(Unit×((U5×Unit)×(T2×l_)))))→(Option ((U1×(Int×Unit))×(T2×l_))))) (s:((Int×Unit)×(Unit×(Unit×((U5×Unit)×(T2×l_)))))):(Option ((U1×(Int×Unit))×(T2×l_))):=(br (aX s.1.1 a0.1) (bd (g.fR a0 a1 s.1.1 c0 s.2.2.2.2.1) (fun p0=>(br (ax (af p0.1.1.1 0)) (k (((ae .i64 s.1.1 1),()),((),((),(((s.2.2.2.1.1.1,(s.2.2.2.1.1.2.1,(s.2.2.2.1.1.2.2.1,(s.2.2.2.1.1.2.2.2.1,(s.2.2.2.1.1.2.2.2.2.1,(s.2.2.2.1.1.2.2.2.2.2.1,(s.2.2.2.1.1.2.2.2.2.2.2.1,(s.2.2.2.1.1.2.2.2.2.2.2.2.1,(s.2.2.2.1.1.2.2.2.2.2.2.2.2.1,(s.2.2.2.1.1.2.2.2.2.2.2.2.2.2.1,(s.2.2.2.1.1.2.2.2.2.2.2.2.2.2.2.1,(s.2.2.2.1.1.2.2.2.2.2.2.2.2.2.2.2.1,(s.2.2.2.1.1.2.2.2.2.2.2.2.2.2.2.2.2.1,(s.2.2.2.1.1.2.2.2.2.2.2.2.2.2.2.2.2.2.1,(s.2.2.2.1.1.2.2.2.2.2.2.2.2.2.2.2.2.2.2.1,(s.2.2.2.1.1.2.2.2.2.2.2.2.2.2.2.2.2.2.2.2.1,(s.2.2.2.1.1.2.2.2.2.2.2.2.2.2.2.2.2.2.2.2.2.1,(s.2.2.2.1.1.2.2.2.2.2.2.2.2.2.2.2.2.2.2.2.2.2.1,(s.2.2.2.1.1.2.2.2.2.2.2.2.2.2.2.2.2.2.2.2.2.2.2.1,(s.2.2.2.1.1.2.2.2.2.2.2.2.2.2.2.2.2.2.2.2.2.2.2.2.1,(s.2.2.2.1.1.2.2.2.2.2.2.2.2.2.2.2.2.2.2.2.2.2.2.2.2.1,(s.2.2.2.1.1.2.2.2.2.2.2.2.2.2.2.2.2.2.2.2.2.2.2.2.2.2.1,(s.2.2.2.1.1.2.2.2.2.2.2.2.2.2.2.2.2.2.2.2.2.2.2.2.2.2.2.1,(s.2.2.2.1.1.2.2.2.2.2.2.2.2.2.2.2.2.2.2.2.2.2.2.2.2.2.2.2.1,(s.2.2.2.1.1.2.2.2.2.2.2.2.2.2.2.2.2.2.2.2.2.2.2.2.2.2.2.2.2.1,(s.2.2.2.1.1.2.2.2.2.2.2.2.2.2.2.2.2.2.2.2.2.2.2.2.2.2.2.2.2.2.1,())))))))))))))))))))))))))),()),(s.2.2.2.2.1,(s.2.2.2.2.2.1,(s.2.2.2.2.2.2.1,())))))))) (bd (g.m7 a3.1.2.2.2.2.1) (fun p1=>(bd (g.bJ a2 p1.1.1 s.2.2.2.2.2.1 s.2.2.2.2.2.2.1) (fun p2=>(br (ax p2.1.2.1) (bd (g.bc a3 14 0) (fun p3=>(some ((p3.1.1,(0,())),(s.2.2.2.2.1,(p2.2.1,(p2.2.2.1,()))))))) (bd (g.bA ((some a1),(a0,s.1.1)) (1,p0.1.1.2) c0 s.2.2.2.2.1) (fun p4=>(bd (g.aE ((some a1),(a0,s.1.1)) 1 (cJ .u64 p2.1.1) c0 p4.2.1) (fun p5=>(bd (g.aE ((some a1),(a0,s.1.1)) 2 (cJ .u64 p1.1.1) c0 p5.2.1) (fun p6=>(bd (g.aE ((some a1),(a0,s.1.1)) 3 0 c0 p6.2.1) (fun p7=>(bd (g.aE ((some a1),(a0,s.1.1)) 4 0 c0 p7.2.1) (fun p8=>(bd (g.bc a3 0 s.1.1) (fun p9=>(some ((p9.1.1,(0,())),(p8.2.1,(p2.2.1,(p2.2.2.1,()))))))))))))))))))))))))) (bd (g.bc a3 13 0) (fun dj=>(some ((dj.1.1,(0,())),(s.2.2.2.2.1,(s.2.2.2.2.2.1,(s.2.2.2.2.2.2.1,()))))))))
def g.iB (a0:U4) (a1:Nat) (a2:Nat) (a3:U1) (c0:T1) (d0:T2) (d1:T3) (d2:T4):(Option ((U1×(Int×Unit))×(T2×l_))):=(jn (fun (k0:U0→_)=>(br a3.2.2.2.2.2.2.2.2.2.2.2.2.2.2.2.1 (some ((((0,(0,(0,(0,(0,(0,0)))))),(0,(0,(0,(0,([],(0,(0,(0,(0,([],(0,([],(0,(false,(false,(false,(0,(0,[]))))))))))))))))))),(1,())),(d0,(d1,(d2,()))))) (br (ax (af a3.2.1 1)) (some ((((0,(0,(0,(0,(0,(0,0)))))),(0,(0,(0,(0,([],(0,(0,(0,(0,([],(0,([],(0,(false,(false,(false,(0,(0,[]))))))))))))))))))),(1,())),(d0,(d1,(d2,()))))) (k0 ((),((),((),(((0,(0,(0,(0,(0,(0,(0,(0,(0,(0,(0,([],(0,(0,(0,(0,([],(0,([],(0,(false,(false,(false,(0,(0,([],())))))))))))))))))))))))))),()),())))))))) (fun (s1:U0)=>(br (af a3.1.1 3) (bd (g.gQ ((some a1),(a0,a3.1.2.2.2.2.1)) a2 c0 d0 d1 d2) (fun p2=>(bd (g.bc a3 p2.1.1 0) (fun p3=>(some ((p3.1.1,(0,())),(p2.2.1,(p2.2.2.1,(p2.2.2.2.1,()))))))))) (loop (g.iJ a0 a1 a2 a3 c0) ((0,()),((),((),(((s1.2.2.2.1.1.1,(s1.2.2.2.1.1.2.1,(s1.2.2.2.1.1.2.2.1,(s1.2.2.2.1.1.2.2.2.1,(s1.2.2.2.1.1.2.2.2.2.1,(s1.2.2.2.1.1.2.2.2.2.2.1,(s1.2.2.2.1.1.2.2.2.2.2.2.1,(s1.2.2.2.1.1.2.2.2.2.2.2.2.1,(s1.2.2.2.1.1.2.2.2.2.2.2.2.2.1,(s1.2.2.2.1.1.2.2.2.2.2.2.2.2.2.1,(s1.2.2.2.1.1.2.2.2.2.2.2.2.2.2.2.1,(s1.2.2.2.1.1.2.2.2.2.2.2.2.2.2.2.2.1,(s1.2.2.2.1.1.2.2.2.2.2.2.2.2.2.2.2.2.1,(s1.2.2.2.1.1.2.2.2.2.2.2.2.2.2.2.2.2.2.1,(s1.2.2.2.1.1.2.2.2.2.2.2.2.2.2.2.2.2.2.2.1,(s1.2.2.2.1.1.2.2.2.2.2.2.2.2.2.2.2.2.2.2.2.1,(s1.2.2.2.1.1.2.2.2.2.2.2.2.2.2.2.2.2.2.2.2.2.1,(s1.2.2.2.1.1.2.2.2.2.2.2.2.2.2.2.2.2.2.2.2.2.2.1,(s1.2.2.2.1.1.2.2.2.2.2.2.2.2.2.2.2.2.2.2.2.2.2.2.1,(s1.2.2.2.1.1.2.2.2.2.2.2.2.2.2.2.2.2.2.2.2.2.2.2.2.1,(s1.2.2.2.1.1.2.2.2.2.2.2.2.2.2.2.2.2.2.2.2.2.2.2.2.2.1,(s1.2.2.2.1.1.2.2.2.2.2.2.2.2.2.2.2.2.2.2.2.2.2.2.2.2.2.1,(s1.2.2.2.1.1.2.2.2.2.2.2.2.2.2.2.2.2.2.2.2.2.2.2.2.2.2.2.1,(s1.2.2.2.1.1.2.2.2.2.2.2.2.2.2.2.2.2.2.2.2.2.2.2.2.2.2.2.2.1,(s1.2.2.2.1.1.2.2.2.2.2.2.2.2.2.2.2.2.2.2.2.2.2.2.2.2.2.2.2.2.1,(s1.2.2.2.1.1.2.2.2.2.2.2.2.2.2.2.2.2.2.2.2.2.2.2.2.2.2.2.2.2.2.1,())))))))))))))))))))))))))),()),(d0,(d1,(d2,())))))))))))
def F61:Plain Rp:=fun x c d=>g.iB x.1 x.2.1 x.2.2.1 x.2.2.2.1 c.1 d.1 d.2.1 d.2.2.1
theorem abb:bB Tryz.prog 61 Rp F61:=bU (ao MO (ao Ia (ao BE (ao aa5 (ao H_ (ao Vw (ao aa4 (aO)))))))) fun x c d=>by kernel_rfl
def JT:dI:=⟨[(true,(.pair (.int .i64) (.pair (.int .i64) (.pair (.int .i64) (.pair .bool (.pair (.int .i64) (.int .i64)))))))],[(false,.bool)],[],[]⟩
def g.k_ (a0:(Int×(Int×(Int×(Bool×(Int×Int)))))):mA:=(bd (g.ab a0.2.1 0 6) (fun p0=>(br p0.1.1 (bd (g.ab a0.1 (ae .i64 2 a0.2.1) 72) (fun p1=>(br p1.1.1 (bd (g.ab a0.2.2.1 0 7) (fun p2=>(br p2.1.1 (bd (g.ab a0.2.2.2.2.1 0 7) (fun p3=>(br p3.1.1 (bd (g.ab a0.2.2.2.2.2 0 16777215) (fun p4=>(some ((p4.1.1,()),())))) (some ((false,()),()))))) (some ((false,()),()))))) (some ((false,()),()))))) (some ((false,()),())))))
def abV:Plain JT:=fun x c d=>g.k_ x.1
theorem VV:bB Tryz.prog 204 JT abV:=bU (ao lI (aO)) fun x c d=>by kernel_rfl
def J2:dI:=⟨[(true,(.pair (.int .i64) (.pair (.int .i64) (.pair (.int .i64) (.pair .bool (.pair (.int .i64) (.int .i64)))))))],[(false,(.int .u64)),(false,(.int .u64)),(false,(.int .i64))],[],[]⟩
def g.jy (a0:(Int×(Int×(Int×(Bool×(Int×Int)))))):(Option ((Int×iv)×Unit)):=(bd (g.k_ a0) (fun p0=>(br (ax p0.1.1) (some ((0,(0,(1,()))),())) (jn (fun (k1:U9→_)=>(br a0.2.2.2.1 (k1 (((bits .or .u64 (bits .or .u64 (bits .or .u64 (bits .or .u64 11889503016258109440 (kW .u64 (cJ .u64 a0.2.2.1) 40)) (kW .u64 (cJ .u64 a0.2.1) 32)) (cJ .u64 a0.1)) 281474976710656),()),((),((),((),()))))) (k1 (((bits .or .u64 (bits .or .u64 (bits .or .u64 11889503016258109440 (kW .u64 (cJ .u64 a0.2.2.1) 40)) (kW .u64 (cJ .u64 a0.2.1) 32)) (cJ .u64 a0.1)),()),((),((),((),()))))))) (fun (s2:U9)=>(some ((s2.1.1,((bits .or .u64 (kW .u64 (cJ .u64 a0.2.2.2.2.2) 8) (cJ .u64 a0.2.2.2.2.1)),(0,()))),())))))))
def ab4:Plain J2:=fun x c d=>g.jy x.1
theorem E0:bB Tryz.prog 142 J2 ab4:=bU (ao VV (aO)) fun x c d=>by kernel_rfl
def J1:dI:=⟨[(false,(.db 1)),(false,(.int .i64)),(false,(.int .u64)),(false,(.int .u64)),(false,(.int .i64)),(false,(.int .u64)),(false,(.int .u64))],[(false,(.int .u64)),(false,.bool),(false,(.int .i64))],[(1,R1)],[(2,R2)]⟩
def g.fZ (a0:Nat) (a1:Int) (a2:Int) (a3:Int) (a4:Int) (a5:Int) (a6:Int) (c0:T1) (d0:T2):(Option ((Int×(Bool×(Int×Unit)))×(T2×Unit))):=(bd (g.aQ a0 a1 c0 d0) (fun p0=>(jn (fun (k1:(Unit×U2)→_)=>(br (ax (af p0.1.2.1 0)) (some ((0,(false,(p0.1.2.1,()))),(d0,()))) (jn (fun (k2:iU→_)=>(br (aX a3 p0.1.1) (k2 ((true,()),((),((),((),()))))) (k2 (((aX (aD .u64 a3 p0.1.1) a2),()),((),((),((),()))))))) (fun (s3:iU)=>(br s3.1.1 (some ((p0.1.1,(false,(0,()))),(d0,()))) (br (aX 65536 p0.1.1) (some ((0,(false,(1,()))),(d0,()))) (bd (g.ab a4 0 65536) (fun p4=>(br (ax p4.1.1) (some ((0,(false,(1,()))),(d0,()))) (k1 ((),((),((),((),())))))))))))))) (fun (s5:(Unit×U2))=>(jn (fun (k6:(Unit×U2)→_)=>(bd (g.cI a0 (ae .i64 a4 (cJ .i64 p0.1.1)) c0 d0) (fun p7=>(br (ax p7.1.1) (some ((0,(false,(1,()))),(d0,()))) (bd (g.cI a0 (ae .i64 (ae .i64 a4 (cJ .i64 p0.1.1)) 8) c0 d0) (fun p8=>(br (ax p8.1.1) (some ((0,(false,(1,()))),(d0,()))) (k6 ((),((),((),((),())))))))))))) (fun (s9:(Unit×U2))=>(bd (g.bb a0 a1 (ae .u64 p0.1.1 a2) c0 d0) (fun dj=>(bd (g.bb a0 (ae .i64 a4 (cJ .i64 p0.1.1)) a5 c0 dj.2.1) (fun kC=>(bd (g.bb a0 (ae .i64 (ae .i64 a4 (cJ .i64 p0.1.1)) 8) a6 c0 kC.2.1) (fun cw=>(some ((p0.1.1,(true,(0,()))),(cw.2.1,())))))))))))))))
def ab3:Plain J1:=fun x c d=>g.fZ x.1 x.2.1 x.2.2.1 x.2.2.2.1 x.2.2.2.2.1 x.2.2.2.2.2.1 x.2.2.2.2.2.2.1 c.1 d.1
theorem V0:bB Tryz.prog 143 J1 ab3:=bU (ao lI (ao BD (ao E2 (ao oi (aO))))) fun x c d=>by kernel_rfl
def Ro:dI:=⟨[(true,(.pair (.int .i64) (.pair (.int .i64) (.pair (.int .i64) (.int .i64))))),(false,(.db 1)),(true,(.pair (.pair (.int .u8) (.pair (.int .u8) (.pair (.int .u8) (.pair (.int .u8) (.pair (.int .i64) (.pair (.int .i64) (.int .i64))))))) (.pair (.int .i64) (.pair (.int .i64) (.pair (.int .u64) (.pair (.int .u64) (.pair (.aI (.pair (.int .i64) .bool)) (.pair (.int .u64) (.pair (.int .u64) (.pair (.int .i64) (.pair (.int .i64) (.pair (.aI (.int .i64)) (.pair (.int .i64) (.pair (.aI (.int .i64)) (.pair (.int .i64) (.pair .bool (.pair .bool (.pair .bool (.pair (.int .i64) (.pair (.int .i64) (.aI (.int .i64))))))))))))))))))))))],[(true,(.pair (.pair (.int .u8) (.pair (.int .u8) (.pair (.int .u8) (.pair (.int .u8) (.pair (.int .i64) (.pair (.int .i64) (.int .i64))))))) (.pair (.int .i64) (.pair (.int .i64) (.pair (.int .u64) (.pair (.int .u64) (.pair (.aI (.pair (.int .i64) .bool)) (.pair (.int .u64) (.pair (.int .u64) (.pair (.int .i64) (.pair (.int .i64) (.pair (.aI (.int .i64)) (.pair (.int .i64) (.pair (.aI (.int .i64)) (.pair (.int .i64) (.pair .bool (.pair .bool (.pair .bool (.pair (.int .i64) (.pair (.int .i64) (.aI (.int .i64)))))))))))))))))))))),(false,(.int .i64))],[(1,R1)],[(2,R2)]⟩
def g.kl (a0:U4) (a1:Nat) (a2:U1) (c0:T1) (d0:T2):(Option ((U1×(Int×Unit))×(T2×Unit))):=(br (af a2.2.1 5) (jn (fun (k0:U0→_)=>(br a2.2.2.2.2.2.2.2.2.2.2.2.2.2.2.2.1 (some ((((0,(0,(0,(0,(0,(0,0)))))),(0,(0,(0,(0,([],(0,(0,(0,(0,([],(0,([],(0,(false,(false,(false,(0,(0,[]))))))))))))))))))),(1,())),(d0,()))) (k0 ((),((),((),(((0,(0,(0,(0,(0,(0,(0,(0,(0,(0,(0,([],(0,(0,(0,(0,([],(0,([],(0,(false,(false,(false,(0,(0,([],())))))))))))))))))))))))))),()),()))))))) (fun (s1:U0)=>(bd (g.fR a0 a1 a2.2.2.1 c0 d0) (fun p2=>(some (((a2.1,(2,(a2.2.2.1,(a2.2.2.2.1,(a2.2.2.2.2.1,(a2.2.2.2.2.2.1,(a2.2.2.2.2.2.2.1,((cJ .u64 p2.1.1.2.2.2),a2.2.2.2.2.2.2.2.2)))))))),(0,())),(d0,()))))))) (br (af a2.2.1 2) (jn (fun (k3:U0→_)=>(br a2.2.2.2.2.2.2.2.2.2.2.2.2.2.2.2.1 (some ((((0,(0,(0,(0,(0,(0,0)))))),(0,(0,(0,(0,([],(0,(0,(0,(0,([],(0,([],(0,(false,(false,(false,(0,(0,[]))))))))))))))))))),(1,())),(d0,()))) (k3 ((),((),((),(((0,(0,(0,(0,(0,(0,(0,(0,(0,(0,(0,([],(0,(0,(0,(0,([],(0,([],(0,(false,(false,(false,(0,(0,([],())))))))))))))))))))))))))),()),()))))))) (fun (s4:U0)=>(bd (g.cQ a0 1 a2.2.2.1) (fun p5=>(bd (g.aQ a1 p5.1.1 c0 d0) (fun p6=>(some (((a2.1,(3,(a2.2.2.1,(a2.2.2.2.1,(a2.2.2.2.2.1,(a2.2.2.2.2.2.1,(a2.2.2.2.2.2.2.1,(a2.2.2.2.2.2.2.2.1,((cJ .i64 p6.1.1),a2.2.2.2.2.2.2.2.2.2))))))))),(0,())),(d0,()))))))))) (br (af a2.2.1 3) (jn (fun (k7:U0→_)=>(br a2.2.2.2.2.2.2.2.2.2.2.2.2.2.2.2.1 (some ((((0,(0,(0,(0,(0,(0,0)))))),(0,(0,(0,(0,([],(0,(0,(0,(0,([],(0,([],(0,(false,(false,(false,(0,(0,[]))))))))))))))))))),(1,())),(d0,()))) (k7 ((),((),((),(((0,(0,(0,(0,(0,(0,(0,(0,(0,(0,(0,([],(0,(0,(0,(0,([],(0,([],(0,(false,(false,(false,(0,(0,([],())))))))))))))))))))))))))),()),()))))))) (fun (s8:U0)=>(bd (g.cQ a0 2 a2.2.2.1) (fun p9=>(bd (g.aQ a1 p9.1.1 c0 d0) (fun dj=>(some (((a2.1,(4,(a2.2.2.1,(a2.2.2.2.1,(a2.2.2.2.2.1,(a2.2.2.2.2.2.1,(dj.1.1,a2.2.2.2.2.2.2.2))))))),(0,())),(d0,()))))))))) (br (af a2.2.1 4) (jn (fun (k11:U0→_)=>(br a2.2.2.2.2.2.2.2.2.2.2.2.2.2.2.2.1 (some ((((0,(0,(0,(0,(0,(0,0)))))),(0,(0,(0,(0,([],(0,(0,(0,(0,([],(0,([],(0,(false,(false,(false,(0,(0,[]))))))))))))))))))),(1,())),(d0,()))) (k11 ((),((),((),(((0,(0,(0,(0,(0,(0,(0,(0,(0,(0,(0,([],(0,(0,(0,(0,([],(0,([],(0,(false,(false,(false,(0,(0,([],())))))))))))))))))))))))))),()),()))))))) (fun (Ya:U0)=>(bd (g.gp a2.1.2.2.2.2.1 a2.1.2.2.2.2.2.1) (fun cm=>(bd (g.jy (cm.1.1,(a2.1.2.2.2.2.1,(a2.1.2.2.2.2.2.2,(false,(a2.2.2.1,(cJ .i64 a2.2.2.2.2.2.2.2.1))))))) (fun jZ=>(bd (g.cQ a0 3 a2.2.2.1) (fun dH=>(bd (g.fZ a1 dH.1.1 (cJ .u64 (dO .i64 cm.1.1 8)) a2.2.2.2.2.2.2.1 a2.2.2.2.2.2.2.2.2.1 jZ.1.1 jZ.1.2.1 c0 d0) (fun eT=>(br (ax eT.1.2.1) (bd (g.bc a2 17 0) (fun gf=>(some ((gf.1.1,(0,())),(eT.2.1,()))))) (bd (g.lM (a2.2.2.1,((cJ .i64 a2.2.2.2.2.2.2.2.1),(ae .i64 a2.2.2.2.2.2.2.2.2.1 (cJ .i64 eT.1.1))))) (fun fj=>(bd (g.bc a2 0 (cJ .i64 fj.1.1)) (fun kB=>(some ((kB.1.1,(0,())),(eT.2.1,())))))))))))))))))) (jn (fun (k20:U0→_)=>(br a2.2.2.2.2.2.2.2.2.2.2.2.2.2.2.2.1 (some ((((0,(0,(0,(0,(0,(0,0)))))),(0,(0,(0,(0,([],(0,(0,(0,(0,([],(0,([],(0,(false,(false,(false,(0,(0,[]))))))))))))))))))),(1,())),(d0,()))) (some ((((0,(0,(0,(0,(0,(0,0)))))),(0,(0,(0,(0,([],(0,(0,(0,(0,([],(0,([],(0,(false,(false,(false,(0,(0,[]))))))))))))))))))),(1,())),(d0,()))))) (fun (FO:U0)=>none))))))
def F62:Plain Ro:=fun x c d=>g.kl x.1 x.2.1 x.2.2.1 c.1 d.1
theorem aba:bB Tryz.prog 62 Ro F62:=bU (ao BE (ao xW (ao Vx (ao H_ (ao oi (ao E0 (ao V0 (ao KS (aO))))))))) fun x c d=>by kernel_rfl
def JZ:dI:=⟨[(true,(.pair (.int .i64) (.pair (.int .i64) (.pair (.int .i64) (.int .i64))))),(false,(.int .i64))],[(true,(.pair (.int .i64) (.pair (.int .i64) (.pair (.int .i64) (.int .i64))))),(false,(.int .i64))],[],[]⟩
def g.jB (a0:U4) (a1:Int):(Option ((U4×(Int×Unit))×Unit)):=(jn (fun (k0:(Unit×(Unit×(Unit×(((Int×(Int×iv))×((Int×(Int×iv))×Unit))×Unit))))→_)=>(jn (fun (k1:iU→_)=>(bd (g.ff a0) (fun p2=>(br (ax p2.1.1) (k1 ((true,()),((),((),((),()))))) (bd (g.ab a1 0 7) (fun p3=>(k1 (((ax p3.1.1),()),((),((),((),()))))))))))) (fun (s4:iU)=>(br s4.1.1 (some (((0,(0,(0,0))),(1,())),())) (br (af a0.1 0) (some (((0,(0,(0,0))),(11,())),())) (br (af a0.1 3) (some (((0,(0,(0,0))),(10,())),())) (br (af a0.1 1) (k0 ((),((),((),(((2,(a0.2.1,(a1,(a0.2.2.2,())))),((0,(0,(0,(0,())))),())),()))))) (br (ax (af a0.2.2.1 a1)) (some (((0,(0,(0,0))),(15,())),())) (br (af a0.2.1 7) (some (((0,(0,(0,0))),(16,())),())) (k0 ((),((),((),(((a0.1,(a0.2.1,(a0.2.2.1,(a0.2.2.2,())))),((0,(0,(0,(0,())))),())),())))))))))))))) (fun (s5:(Unit×(Unit×(Unit×(((Int×(Int×iv))×((Int×(Int×iv))×Unit))×Unit)))))=>(some (((s5.2.2.2.1.1.1,((ae .i64 s5.2.2.2.1.1.2.1 1),(s5.2.2.2.1.1.2.2.1,s5.2.2.2.1.1.2.2.2.1))),(0,())),()))))
def ab1:Plain JZ:=fun x c d=>g.jB x.1 x.2.1
theorem VZ:bB Tryz.prog 145 JZ ab1:=bU (ao lI (ao zn (aO))) fun x c d=>by kernel_rfl
def JY:dI:=⟨[(false,(.db 1)),(false,(.int .i64)),(false,(.int .u64)),(false,(.int .u64))],[(false,.bool),(false,(.int .i64))],[(1,R1)],[(2,R2)]⟩
def g.dQ (a0:Nat) (a1:Int) (a2:Int) (a3:Int) (c0:T1) (d0:T2):(Option ((Bool×(Int×Unit))×(T2×Unit))):=(bd (g.aQ a0 a1 c0 d0) (fun p0=>(br (ax (af p0.1.2.1 0)) (some ((false,(p0.1.2.1,())),(d0,()))) (br (ax (af p0.1.1 a2)) (some ((false,(p0.1.2.1,())),(d0,()))) (bd (g.bb a0 a1 a3 c0 d0) (fun p1=>(some ((true,(p1.1.1,())),(p1.2.1,())))))))))
def ab0:Plain JY:=fun x c d=>g.dQ x.1 x.2.1 x.2.2.1 x.2.2.2.1 c.1 d.1
theorem KR:bB Tryz.prog 146 JY ab0:=bU (ao BD (ao oi (aO))) fun x c d=>by kernel_rfl
def Rm:dI:=⟨[(true,(.pair (.int .i64) (.pair (.int .i64) (.pair (.int .i64) (.int .i64))))),(false,(.db 1)),(true,(.pair (.pair (.int .u8) (.pair (.int .u8) (.pair (.int .u8) (.pair (.int .u8) (.pair (.int .i64) (.pair (.int .i64) (.int .i64))))))) (.pair (.int .i64) (.pair (.int .i64) (.pair (.int .u64) (.pair (.int .u64) (.pair (.aI (.pair (.int .i64) .bool)) (.pair (.int .u64) (.pair (.int .u64) (.pair (.int .i64) (.pair (.int .i64) (.pair (.aI (.int .i64)) (.pair (.int .i64) (.pair (.aI (.int .i64)) (.pair (.int .i64) (.pair .bool (.pair .bool (.pair .bool (.pair (.int .i64) (.pair (.int .i64) (.aI (.int .i64))))))))))))))))))))))],[(true,(.pair (.pair (.int .u8) (.pair (.int .u8) (.pair (.int .u8) (.pair (.int .u8) (.pair (.int .i64) (.pair (.int .i64) (.int .i64))))))) (.pair (.int .i64) (.pair (.int .i64) (.pair (.int .u64) (.pair (.int .u64) (.pair (.aI (.pair (.int .i64) .bool)) (.pair (.int .u64) (.pair (.int .u64) (.pair (.int .i64) (.pair (.int .i64) (.pair (.aI (.int .i64)) (.pair (.int .i64) (.pair (.aI (.int .i64)) (.pair (.int .i64) (.pair .bool (.pair .bool (.pair .bool (.pair (.int .i64) (.pair (.int .i64) (.aI (.int .i64)))))))))))))))))))))),(false,(.int .i64))],[(1,R1)],[(2,R2)]⟩
def g.iD (a0:U4) (a1:Nat) (a2:U1) (c0:T1) (d0:T2):(Option ((U1×(Int×Unit))×(T2×Unit))):=(bd (g.cQ a0 0 a2.1.2.2.2.2.1) (fun p0=>(br (af a2.2.1 13) (jn (fun (k1:U0→_)=>(br a2.2.2.2.2.2.2.2.2.2.2.2.2.2.2.2.1 (some ((((0,(0,(0,(0,(0,(0,0)))))),(0,(0,(0,(0,([],(0,(0,(0,(0,([],(0,([],(0,(false,(false,(false,(0,(0,[]))))))))))))))))))),(1,())),(d0,()))) (k1 ((),((),((),(((0,(0,(0,(0,(0,(0,(0,(0,(0,(0,(0,([],(0,(0,(0,(0,([],(0,([],(0,(false,(false,(false,(0,(0,([],())))))))))))))))))))))))))),()),()))))))) (fun (s2:U0)=>(bd (g.aQ a1 p0.1.1 c0 d0) (fun p3=>(bd (g.dP p3.1.1) (fun p4=>(bd (g.jB p4.1.1 a2.2.2.1) (fun p5=>(br (af p5.1.2.1 10) (some ((a2,(0,())),(d0,()))) (br (af p5.1.2.1 0) (bd (g.gB p5.1.1) (fun p6=>(some (((a2.1,(14,(a2.2.2.1,(a2.2.2.2.1,(a2.2.2.2.2.1,(a2.2.2.2.2.2.1,(p3.1.1,(p6.1.1,a2.2.2.2.2.2.2.2.2)))))))),(0,())),(d0,()))))) (bd (g.bc a2 p5.1.2.1 0) (fun p7=>(some ((p7.1.1,(0,())),(d0,()))))))))))))))) (br (af a2.2.1 14) (jn (fun (k8:U0→_)=>(br a2.2.2.2.2.2.2.2.2.2.2.2.2.2.2.2.1 (some ((((0,(0,(0,(0,(0,(0,0)))))),(0,(0,(0,(0,([],(0,(0,(0,(0,([],(0,([],(0,(false,(false,(false,(0,(0,[]))))))))))))))))))),(1,())),(d0,()))) (k8 ((),((),((),(((0,(0,(0,(0,(0,(0,(0,(0,(0,(0,(0,([],(0,(0,(0,(0,([],(0,([],(0,(false,(false,(false,(0,(0,([],())))))))))))))))))))))))))),()),()))))))) (fun (s9:U0)=>(bd (g.dQ a1 p0.1.1 a2.2.2.2.2.2.2.1 a2.2.2.2.2.2.2.2.1 c0 d0) (fun dj=>(br dj.1.1 (bd (g.bc a2 0 0) (fun kC=>(some ((kC.1.1,(0,())),(dj.2.1,()))))) (some (((a2.1,(13,(a2.2.2.1,(a2.2.2.2.1,(a2.2.2.2.2.1,(a2.2.2.2.2.2.1,(0,(0,a2.2.2.2.2.2.2.2.2)))))))),(0,())),(dj.2.1,())))))))) (jn (fun (Nr:U0→_)=>(br a2.2.2.2.2.2.2.2.2.2.2.2.2.2.2.2.1 (some ((((0,(0,(0,(0,(0,(0,0)))))),(0,(0,(0,(0,([],(0,(0,(0,(0,([],(0,([],(0,(false,(false,(false,(0,(0,[]))))))))))))))))))),(1,())),(d0,()))) (some ((((0,(0,(0,(0,(0,(0,0)))))),(0,(0,(0,(0,([],(0,(0,(0,(0,([],(0,([],(0,(false,(false,(false,(0,(0,[]))))))))))))))))))),(1,())),(d0,()))))) (fun (s13:U0)=>none))))))
def F63:Plain Rm:=fun x c d=>g.iD x.1 x.2.1 x.2.2.1 c.1 d.1
theorem aa_:bB Tryz.prog 63 Rm F63:=bU (ao BE (ao MN (ao xW (ao oi (ao E1 (ao VZ (ao KR (aO)))))))) fun x c d=>by kernel_rfl
def JI:dI:=⟨[(false,(.int .u64)),(false,(.int .u64))],[(true,(.pair (.int .i64) (.pair (.int .i64) (.pair (.int .i64) (.pair .bool (.pair (.int .i64) (.int .i64))))))),(false,(.int .i64))],[],[]⟩
def g.j7 (a0:Int) (a1:Int):(Option (((Int×(Int×(Int×(Bool×(Int×Int)))))×(Int×Unit))×Unit)):=(bd (g.jy ((cJ .i64 (bits .and .u64 a0 4294967295)),((cJ .i64 (bits .and .u64 (jq .u64 a0 32) 255)),((cJ .i64 (bits .and .u64 (jq .u64 a0 40) 255)),((af (cJ .i64 (bits .and .u64 (jq .u64 a0 48) 255)) 1),((cJ .i64 (bits .and .u64 (jq .u64 a1 0) 255)),(cJ .i64 (jq .u64 a1 8)))))))) (fun p0=>(br (ax (af p0.1.2.2.1 0)) (some (((0,(0,(0,(false,(0,0))))),(18,())),())) (br (ax (af p0.1.1 a0)) (some (((0,(0,(0,(false,(0,0))))),(18,())),())) (br (ax (af p0.1.2.1 a1)) (some (((0,(0,(0,(false,(0,0))))),(18,())),())) (some ((((cJ .i64 (bits .and .u64 a0 4294967295)),((cJ .i64 (bits .and .u64 (jq .u64 a0 32) 255)),((cJ .i64 (bits .and .u64 (jq .u64 a0 40) 255)),((af (cJ .i64 (bits .and .u64 (jq .u64 a0 48) 255)) 1),((cJ .i64 (bits .and .u64 (jq .u64 a1 0) 255)),(cJ .i64 (jq .u64 a1 8))))))),(0,())),())))))))
def abK:Plain JI:=fun x c d=>g.j7 x.1 x.2.1
theorem VJ:bB Tryz.prog 236 JI abK:=bU (ao E0 (aO)) fun x c d=>by kernel_rfl
def JR:dI:=⟨[(false,(.db 1)),(false,(.int .i64))],[(true,(.pair (.int .i64) (.pair (.int .i64) (.pair (.int .i64) (.pair .bool (.pair (.int .i64) (.int .i64))))))),(false,(.int .i64))],[(1,R1),(2,R2)],[]⟩
def g.g9 (a0:Nat) (a1:Int) (c0:T1) (c1:T2):(Option (((Int×(Int×(Int×(Bool×(Int×Int)))))×(Int×Unit))×Unit)):=(bd (g.aQ a0 a1 c0 c1) (fun p0=>(br (ax (af p0.1.2.1 0)) (some (((0,(0,(0,(false,(0,0))))),(18,())),())) (bd (g.aQ a0 (ae .i64 a1 8) c0 c1) (fun p1=>(br (ax (af p1.1.2.1 0)) (some (((0,(0,(0,(false,(0,0))))),(18,())),())) (bd (g.j7 p0.1.1 p1.1.1) (fun p2=>(some ((p2.1.1,(p2.1.2.1,())),()))))))))))
def abT:Plain JR:=fun x c d=>g.g9 x.1 x.2.1 c.1 c.2.1
theorem zm:bB Tryz.prog 209 JR abT:=bU (ao oi (ao VJ (aO))) fun x c d=>by kernel_rfl
def JX:dI:=⟨[(false,(.db 1)),(false,(.int .i64)),(false,(.int .i64))],[(false,(.int .i64)),(false,(.int .i64))],[(1,R1),(2,R2)],[]⟩
def g.jF (a0:Nat) (a1:Int) (a2:Int) (c0:T1) (c1:T2):(Option (iv×Unit)):=(bd (g.g9 a0 a1 c0 c1) (fun p0=>(jn (fun (k1:(Unit×U2)→_)=>(br (ax (af p0.1.2.1 0)) (some ((0,(p0.1.2.1,())),())) (br (aX a2 0) (some ((0,(21,())),())) (br (cW p0.1.1.2.1 a2) (some ((0,(21,())),())) (k1 ((),((),((),((),()))))))))) (fun (s2:(Unit×U2))=>(some (((ae .i64 (ae .i64 a1 16) (dO .i64 8 a2)),(0,())),()))))))
def abZ:Plain JX:=fun x c d=>g.jF x.1 x.2.1 x.2.2.1 c.1 c.2.1
theorem KQ:bB Tryz.prog 160 JX abZ:=bU (ao zm (aO)) fun x c d=>by kernel_rfl
def JJ:dI:=⟨[(true,(.pair (.int .i64) (.pair (.int .i64) (.pair (.int .i64) (.int .i64))))),(false,(.int .i64))],[(false,(.int .i64))],[],[]⟩
def g.o6 (a0:U4) (a1:Int):pM:=(bd (g.ff a0) (fun p0=>(br (ax p0.1.1) (some ((1,()),())) (br (ax (af a0.1 a1)) (some ((11,()),())) (some ((0,()),()))))))
def abL:Plain JJ:=fun x c d=>g.o6 x.1 x.2.1
theorem EZ:bB Tryz.prog 235 JJ abL:=bU (ao zn (aO)) fun x c d=>by kernel_rfl
def JS:dI:=⟨[(true,(.pair (.int .i64) (.pair (.int .i64) (.pair (.int .i64) (.int .i64)))))],[(true,(.pair (.int .i64) (.pair (.int .i64) (.pair (.int .i64) (.int .i64))))),(false,(.int .i64))],[],[]⟩
def g.mv (a0:U4):(Option ((U4×(Int×Unit))×Unit)):=(bd (g.o6 a0 2) (fun p0=>(br (ax (af p0.1.1 0)) (some (((0,(0,(0,0))),(p0.1.1,())),())) (br (af (aD .i64 a0.2.1 1) 0) (some (((3,((aD .i64 a0.2.1 1),a0.2.2)),(0,())),())) (some (((a0.1,((aD .i64 a0.2.1 1),a0.2.2)),(0,())),()))))))
def abU:Plain JS:=fun x c d=>g.mv x.1
theorem VU:bB Tryz.prog 206 JS abU:=bU (ao EZ (aO)) fun x c d=>by kernel_rfl
def JQ:dI:=⟨[(false,(.iX 9 1)),(false,(.int .i64))],[(false,(.aI (.pair (.int .u8) (.pair (.int .i64) (.int .i64)))))],[(9,R9)],[]⟩
def g.l5 (a0:(Option Nat)) (a1:Int) (c0:T9):(Option ((sL×Unit)×Unit)):=(opt a0 (bd (g.ab a1 0 (-1)) (fun p0=>(br (ax p0.1.1) (some (([],()),())) (opt a0 none (fun p1=>(bd (aT c0 p1) (fun p2=>(gd (bw a1) (gd (bD (nN a1) (len p2)) (bd (aT c0 p1) (fun p3=>(some (((nth [] p3 (nN a1)),()),()))))))))))))) (fun p4=>(bd (aT c0 p4) (fun p5=>(bd (g.ab a1 0 (aD .i64 (zN (len p5)) 1)) (fun p6=>(br (ax p6.1.1) (some (([],()),())) (opt a0 none (fun p7=>(bd (aT c0 p7) (fun p8=>(gd (bw a1) (gd (bD (nN a1) (len p8)) (bd (aT c0 p7) (fun p9=>(some (((nth [] p9 (nN a1)),()),())))))))))))))))))
def abS:Plain JQ:=fun x c d=>g.l5 x.1 x.2.1 c.1
theorem VS:bB Tryz.prog 210 JQ abS:=bU (ao lI (aO)) fun x c d=>by kernel_rfl
def JP:dI:=⟨[(false,(.aI (.pair (.int .u8) (.pair (.int .i64) (.int .i64))))),(false,(.int .i64)),(false,(.aI (.int .u64)))],[(false,(.int .i64)),(false,(.aI (.int .u64))),(false,(.aI (.int .i64))),(false,.bool)],[],[]⟩
def g.l3 (a0:sL) (a1:Int) (a2:(List Int)) (v0:iU→Gc) (k:(U9→Gc)) (s:U9):Gc:=(br (aX s.1.1 (zN (len [(nth (0,(0,0)) a0 (nN a1)).2.1]))) (gd (bw s.1.1) (gd (bD (nN s.1.1) (len [(nth (0,(0,0)) a0 (nN a1)).2.1])) (bd (g.ab (nth 0 [(nth (0,(0,0)) a0 (nN a1)).2.1] (nN s.1.1)) 0 (aD .i64 (zN (len (cat [] a2))) 1)) (fun p0=>(br (ax p0.1.1) (br (ax (cW 0 s.1.1)) (gd (bw (nth (0,(0,0)) a0 (nN a1)).2.1) (gd (bD (nN (nth (0,(0,0)) a0 (nN a1)).2.1) (len (cat [] a2))) (v0 (((af (nth 0 (cat [] a2) (nN (nth (0,(0,0)) a0 (nN a1)).2.1)) 0),()),((),((),((),()))))))) (v0 ((false,()),((),((),((),())))))) (k (((ae .i64 s.1.1 1),()),((),((),((),())))))))))) (gd (bw (nth (0,(0,0)) a0 (nN a1)).2.1) (gd (bD (nN (nth (0,(0,0)) a0 (nN a1)).2.1) (len (cat [] a2))) (v0 (((af (nth 0 (cat [] a2) (nN (nth (0,(0,0)) a0 (nN a1)).2.1)) 0),()),((),((),((),()))))))))
def g.lZ (a0:sL) (a1:Int) (a2:(List Int)) (v0:iU→Gc) (k:(U9→Gc)) (s:U9):Gc:=(br (aX s.1.1 (zN (len [(nth (0,(0,0)) a0 (nN a1)).2.1,(nth (0,(0,0)) a0 (nN a1)).2.2]))) (gd (bw s.1.1) (gd (bD (nN s.1.1) (len [(nth (0,(0,0)) a0 (nN a1)).2.1,(nth (0,(0,0)) a0 (nN a1)).2.2])) (bd (g.ab (nth 0 [(nth (0,(0,0)) a0 (nN a1)).2.1,(nth (0,(0,0)) a0 (nN a1)).2.2] (nN s.1.1)) 0 (aD .i64 (zN (len (cat [] a2))) 1)) (fun p0=>(br (ax p0.1.1) (v0 (((ax (cW 0 s.1.1)),()),((),((),((),()))))) (k (((ae .i64 s.1.1 1),()),((),((),((),())))))))))) (v0 ((true,()),((),((),((),()))))))
def g.lY (a0:sL) (a1:Int) (a2:(List Int)) (v0:iU→Gc) (k:(U9→Gc)) (s:U9):Gc:=(br (aX s.1.1 (zN (len [(nth (0,(0,0)) a0 (nN a1)).2.1]))) (gd (bw s.1.1) (gd (bD (nN s.1.1) (len [(nth (0,(0,0)) a0 (nN a1)).2.1])) (bd (g.ab (nth 0 [(nth (0,(0,0)) a0 (nN a1)).2.1] (nN s.1.1)) 0 (aD .i64 (zN (len (cat [] a2))) 1)) (fun p0=>(br (ax p0.1.1) (v0 (((ax (cW 0 s.1.1)),()),((),((),((),()))))) (k (((ae .i64 s.1.1 1),()),((),((),((),())))))))))) (v0 ((true,()),((),((),((),()))))))
def g.l4 (a0:sL) (a1:Int) (a2:(List Int)):Gc:=(gd (bp (aK 0 (len a2)) 16777216) (bd (g.ab a1 0 (aD .i64 (zN (len a0)) 1)) (fun p0=>(br (ax p0.1.1) (some ((a1,((cat [] a2),([],(false,())))),())) (gd (bw a1) (gd (bD (nN a1) (len a0)) (jn (fun (k1:(Unit×(Unit×(Unit×((((List Int)×((List Int)×(Bool×(Int×Unit))))×Unit)×Unit))))→_)=>(br (aX (cJ .i64 (nth (0,(0,0)) a0 (nN a1)).1) 5) (br (af (nth (0,(0,0)) a0 (nN a1)).1 0) (gd (bp (len [(nth (0,(0,0)) a0 (nN a1)).2.1]) 16777216) (k1 ((),((),((),((((cat [] a2),([(nth (0,(0,0)) a0 (nN a1)).2.1],(false,(0,())))),()),())))))) (br (af (nth (0,(0,0)) a0 (nN a1)).1 1) (jn (fun (k2:iU→_)=>(loop (g.lY a0 a1 a2 k2) ((0,()),((),((),((),())))))) (fun (s6:iU)=>(br s6.1.1 (gd (bw (nth (0,(0,0)) a0 (nN a1)).2.1) (gd (bD (nN (nth (0,(0,0)) a0 (nN a1)).2.1) (len (cat [] a2))) (k1 ((),((),((),((((upd (cat [] a2) (nN (nth (0,(0,0)) a0 (nN a1)).2.1) 0),([],(false,(0,())))),()),()))))))) (k1 ((),((),((),((((cat [] a2),([],(false,(0,())))),()),())))))))) (br (af (nth (0,(0,0)) a0 (nN a1)).1 2) (jn (fun (k7:iU→_)=>(loop (g.lZ a0 a1 a2 k7) ((0,()),((),((),((),())))))) (fun (aG:iU)=>(br aG.1.1 (gd (bw (nth (0,(0,0)) a0 (nN a1)).2.2) (gd (bD (nN (nth (0,(0,0)) a0 (nN a1)).2.2) (len (cat [] a2))) (gd (bw (nth (0,(0,0)) a0 (nN a1)).2.1) (gd (bD (nN (nth (0,(0,0)) a0 (nN a1)).2.1) (len (cat [] a2))) (k1 ((),((),((),((((upd (cat [] a2) (nN (nth (0,(0,0)) a0 (nN a1)).2.1) (nth 0 (cat [] a2) (nN (nth (0,(0,0)) a0 (nN a1)).2.2))),([],(false,(0,())))),()),()))))))))) (k1 ((),((),((),((((cat [] a2),([],(false,(0,())))),()),())))))))) (br (af (nth (0,(0,0)) a0 (nN a1)).1 3) (jn (fun (Nr:iU→_)=>(loop (g.l3 a0 a1 a2 Nr) ((0,()),((),((),((),())))))) (fun (cd:iU)=>(br cd.1.1 (k1 ((),((),((),((((cat [] a2),([],(false,((nth (0,(0,0)) a0 (nN a1)).2.2,())))),()),()))))) (k1 ((),((),((),((((cat [] a2),([],(false,(0,())))),()),())))))))) (br (af (nth (0,(0,0)) a0 (nN a1)).1 4) (k1 ((),((),((),((((cat [] a2),([],(true,(0,())))),()),()))))) none))))) (k1 ((),((),((),((((cat [] a2),([],(false,(0,())))),()),()))))))) (fun (WD:(Unit×(Unit×(Unit×((((List Int)×((List Int)×(Bool×(Int×Unit))))×Unit)×Unit)))))=>(some (((ae .i64 (ae .i64 a1 1) WD.2.2.2.1.1.2.2.2.1),(WD.2.2.2.1.1.1,(WD.2.2.2.1.1.2.1,(WD.2.2.2.1.1.2.2.1,())))),()))))))))))
def abR:Plain JP:=fun x c d=>g.l4 x.1 x.2.1 x.2.2.1
theorem VR:bB Tryz.prog 211 JP abR:=bU (ao lI (aO)) fun x c d=>by kernel_rfl
def JO:dI:=⟨[(false,(.aI (.aI (.int .i64))))],[(false,(.aI (.int .i64)))],[],[]⟩
def g.ko (a0:(List (List Int))) (k:(((Int×Unit)×B_)→wv)) (s:((Int×Unit)×B_)):wv:=(br (aX s.1.1 (zN (len a0))) (gd (bw s.1.1) (gd (bD (nN s.1.1) (len a0)) (gd (bp (aK (len s.2.1.1) (len (nth [] a0 (nN s.1.1)))) 16777216) (k (((ae .i64 s.1.1 1),()),(((cat s.2.1.1 (nth [] a0 (nN s.1.1))),()),((),((),())))))))) (some ((s.2.1.1,()),())))
def g.km (a0:(List (List Int))) (k:((iv×U2)→wv)) (s:(iv×U2)):wv:=(br (aX s.1.2.1 (zN (len a0))) (gd (bw s.1.2.1) (gd (bD (nN s.1.2.1) (len a0)) (br (aX (ae .i64 s.1.1 (zN (len (nth [] a0 (nN s.1.2.1))))) 0) none (k (((ae .i64 s.1.1 (zN (len (nth [] a0 (nN s.1.2.1))))),((ae .i64 s.1.2.1 1),())),((),((),((),())))))))) (jn (fun (k0:(Unit×B_)→_)=>(gd (bw s.1.1) (gd (bp (nN s.1.1) 16777216) (k0 ((),(([],()),((),((),())))))))) (fun (s1:(Unit×B_))=>(loop (g.ko a0) ((0,()),((s1.2.1.1,()),((),((),()))))))))
def g.iH (a0:(List (List Int))):wv:=(loop (g.km a0) ((0,(0,())),((),((),((),())))))
def abQ:Plain JO:=fun x c d=>g.iH x.1
theorem VQ:bB Tryz.prog 212 JO abQ:=bU (MM Br (aO)) fun x c d=>by kernel_rfl
def JN:dI:=⟨[(false,(.db 1)),(false,(.int .i64))],[(false,(.int .i64))],[(1,R1)],[(2,R2)]⟩
def g.kQ (a0:Nat) (a1:Int) (c0:T1) (d0:T2):(Option ((Int×Unit)×(T2×Unit))):=(bd (g.g9 a0 a1 c0 d0) (fun p0=>(br (ax (af p0.1.2.1 0)) (some ((p0.1.2.1,()),(d0,()))) (bd (g.jy (p0.1.1.1,(p0.1.1.2.1,(p0.1.1.2.2.1,(true,p0.1.1.2.2.2.2))))) (fun p1=>(bd (g.bb a0 a1 p1.1.1 c0 d0) (fun p2=>(some ((p2.1.1,()),(p2.2.1,()))))))))))
def abP:Plain JN:=fun x c d=>g.kQ x.1 x.2.1 c.1 d.1
theorem VO:bB Tryz.prog 214 JN abP:=bU (ao BD (ao E0 (ao zm (aO)))) fun x c d=>by kernel_rfl
def JM:dI:=⟨[(true,(.pair (.int .i64) (.pair (.int .i64) (.pair (.int .i64) (.int .i64)))))],[(true,(.pair (.int .i64) (.pair (.int .i64) (.pair (.int .i64) (.int .i64))))),(false,(.int .i64))],[],[]⟩
def g.oh (a0:U4):(Option ((U4×(Int×Unit))×Unit)):=(bd (g.o6 a0 3) (fun p0=>(br (ax (af p0.1.1 0)) (some (((0,(0,(0,0))),(p0.1.1,())),())) (some (((2,(1,a0.2.2)),(0,())),())))))
def abO:Plain JM:=fun x c d=>g.oh x.1
theorem VN:bB Tryz.prog 216 JM abO:=bU (ao EZ (aO)) fun x c d=>by kernel_rfl
def JL:dI:=⟨[(true,(.pair (.int .i64) (.pair (.int .i64) (.pair (.int .i64) (.int .i64)))))],[(true,(.pair (.int .i64) (.pair (.int .i64) (.pair (.int .i64) (.int .i64))))),(false,(.int .i64))],[],[]⟩
def g.og (a0:U4):(Option ((U4×(Int×Unit))×Unit)):=(bd (g.o6 a0 3) (fun p0=>(br (ax (af p0.1.1 0)) (some (((0,(0,(0,0))),(p0.1.1,())),())) (some (((1,(0,((-1),(bits .and .i64 (ae .i64 a0.2.2.2 1) 16777215)))),(0,())),())))))
def abN:Plain JL:=fun x c d=>g.og x.1
theorem VM:bB Tryz.prog 219 JL abN:=bU (ao EZ (aO)) fun x c d=>by kernel_rfl
def Rl:dI:=⟨[(true,(.pair (.int .i64) (.pair (.int .i64) (.pair (.int .i64) (.int .i64))))),(false,(.iX 9 1)),(false,(.db 1)),(true,(.pair (.pair (.int .u8) (.pair (.int .u8) (.pair (.int .u8) (.pair (.int .u8) (.pair (.int .i64) (.pair (.int .i64) (.int .i64))))))) (.pair (.int .i64) (.pair (.int .i64) (.pair (.int .u64) (.pair (.int .u64) (.pair (.aI (.pair (.int .i64) .bool)) (.pair (.int .u64) (.pair (.int .u64) (.pair (.int .i64) (.pair (.int .i64) (.pair (.aI (.int .i64)) (.pair (.int .i64) (.pair (.aI (.int .i64)) (.pair (.int .i64) (.pair .bool (.pair .bool (.pair .bool (.pair (.int .i64) (.pair (.int .i64) (.aI (.int .i64))))))))))))))))))))))],[(true,(.pair (.pair (.int .u8) (.pair (.int .u8) (.pair (.int .u8) (.pair (.int .u8) (.pair (.int .i64) (.pair (.int .i64) (.int .i64))))))) (.pair (.int .i64) (.pair (.int .i64) (.pair (.int .u64) (.pair (.int .u64) (.pair (.aI (.pair (.int .i64) .bool)) (.pair (.int .u64) (.pair (.int .u64) (.pair (.int .i64) (.pair (.int .i64) (.pair (.aI (.int .i64)) (.pair (.int .i64) (.pair (.aI (.int .i64)) (.pair (.int .i64) (.pair .bool (.pair .bool (.pair .bool (.pair (.int .i64) (.pair (.int .i64) (.aI (.int .i64)))))))))))))))))))))),(false,(.int .i64))],[],[(1,R1),(2,R2),(9,R9)]⟩
def g.kc (a0:U4) (a1:(Option Nat)) (a2:Nat) (a3:U1) (d2:T9) (v0:((Int×Unit)×(((List Int)×((List Int)×Unit))×(Unit×(Unit×(T1×Unit)))))) (v1:((Int×((List Int)×((List Int)×(Bool×Unit))))×Unit)) (v2:((sL×Unit)×Unit)) (k:(((Int×Unit)×(Unit×(Unit×(Unit×(T1×(T2×Unit))))))→(Option ((U1×(Int×Unit))×(T1×(T2×(T9×Unit))))))) (s:((Int×Unit)×(Unit×(Unit×(Unit×(T1×(T2×Unit))))))):(Option ((U1×(Int×Unit))×(T1×(T2×(T9×Unit))))):=(br (aX s.1.1 (zN (len v0.2.1.1))) (gd (bw s.1.1) (gd (bD (nN s.1.1) (len v0.2.1.1)) (gd (bw s.1.1) (gd (bD (nN s.1.1) (len v1.1.2.1)) (bd (g.bb a2 (nth 0 v0.2.1.1 (nN s.1.1)) (nth 0 v1.1.2.1 (nN s.1.1)) s.2.2.2.2.1 s.2.2.2.2.2.1) (fun p0=>(k (((ae .i64 s.1.1 1),()),((),((),((),(s.2.2.2.2.1,(p0.2.1,()))))))))))))) (jn (fun (k1:(Unit×(Unit×(Unit×(((Int×(Int×(Int×(Int×((Option Nat)×((Option Nat)×U5))))))×Unit)×Unit))))→_)=>(bd (g.iH [a3.2.2.2.2.2.2.2.2.2.2.2.2.1,v1.1.2.2.1]) (fun p2=>(br a3.2.2.2.2.2.2.2.2.2.2.2.2.2.2.1 (k1 ((),((),((),(((a0.1,(a0.2.1,(a0.2.2.1,(a0.2.2.2,(a1,((some a2),(a3.1.1,(a3.1.2.1,(a3.1.2.2.1,(a3.1.2.2.2.1,(a3.1.2.2.2.2.1,(a3.1.2.2.2.2.2.1,(a3.1.2.2.2.2.2.2,(a3.2.1,(a3.2.2.1,(a3.2.2.2.1,(a3.2.2.2.2.1,(a3.2.2.2.2.2.1,(a3.2.2.2.2.2.2.1,(a3.2.2.2.2.2.2.2.1,(a3.2.2.2.2.2.2.2.2.1,(a3.2.2.2.2.2.2.2.2.2.1,(a3.2.2.2.2.2.2.2.2.2.2.1,(v1.1.1,(p2.1.1,(a3.2.2.2.2.2.2.2.2.2.2.2.2.2.1,(true,(a3.2.2.2.2.2.2.2.2.2.2.2.2.2.2.2.1,(a3.2.2.2.2.2.2.2.2.2.2.2.2.2.2.2.2.1,(a3.2.2.2.2.2.2.2.2.2.2.2.2.2.2.2.2.2.1,(a3.2.2.2.2.2.2.2.2.2.2.2.2.2.2.2.2.2.2.1,(a3.2.2.2.2.2.2.2.2.2.2.2.2.2.2.2.2.2.2.2,())))))))))))))))))))))))))))))))),()),()))))) (k1 ((),((),((),(((a0.1,(a0.2.1,(a0.2.2.1,(a0.2.2.2,(a1,((some a2),(a3.1.1,(a3.1.2.1,(a3.1.2.2.1,(a3.1.2.2.2.1,(a3.1.2.2.2.2.1,(a3.1.2.2.2.2.2.1,(a3.1.2.2.2.2.2.2,(a3.2.1,(a3.2.2.1,(a3.2.2.2.1,(a3.2.2.2.2.1,(a3.2.2.2.2.2.1,(a3.2.2.2.2.2.2.1,(a3.2.2.2.2.2.2.2.1,(a3.2.2.2.2.2.2.2.2.1,(a3.2.2.2.2.2.2.2.2.2.1,(a3.2.2.2.2.2.2.2.2.2.2.1,(v1.1.1,(p2.1.1,(a3.2.2.2.2.2.2.2.2.2.2.2.2.2.1,(v1.1.2.2.2.1,(a3.2.2.2.2.2.2.2.2.2.2.2.2.2.2.2.1,(a3.2.2.2.2.2.2.2.2.2.2.2.2.2.2.2.2.1,(a3.2.2.2.2.2.2.2.2.2.2.2.2.2.2.2.2.2.1,(a3.2.2.2.2.2.2.2.2.2.2.2.2.2.2.2.2.2.2.1,(a3.2.2.2.2.2.2.2.2.2.2.2.2.2.2.2.2.2.2.2,())))))))))))))))))))))))))))))))),()),()))))))))) (fun (s3:(Unit×(Unit×(Unit×(((Int×(Int×(Int×(Int×((Option Nat)×((Option Nat)×U5))))))×Unit)×Unit)))))=>(br (cW (zN (len v2.1.1)) v1.1.1) (some ((((s3.2.2.2.1.1.2.2.2.2.2.2.1,(s3.2.2.2.1.1.2.2.2.2.2.2.2.1,(s3.2.2.2.1.1.2.2.2.2.2.2.2.2.1,(s3.2.2.2.1.1.2.2.2.2.2.2.2.2.2.1,(s3.2.2.2.1.1.2.2.2.2.2.2.2.2.2.2.1,(s3.2.2.2.1.1.2.2.2.2.2.2.2.2.2.2.2.1,s3.2.2.2.1.1.2.2.2.2.2.2.2.2.2.2.2.2.1)))))),(21,(s3.2.2.2.1.1.2.2.2.2.2.2.2.2.2.2.2.2.2.2.1,(s3.2.2.2.1.1.2.2.2.2.2.2.2.2.2.2.2.2.2.2.2.1,(s3.2.2.2.1.1.2.2.2.2.2.2.2.2.2.2.2.2.2.2.2.2.1,(s3.2.2.2.1.1.2.2.2.2.2.2.2.2.2.2.2.2.2.2.2.2.2.1,(s3.2.2.2.1.1.2.2.2.2.2.2.2.2.2.2.2.2.2.2.2.2.2.2.1,(s3.2.2.2.1.1.2.2.2.2.2.2.2.2.2.2.2.2.2.2.2.2.2.2.2.1,(s3.2.2.2.1.1.2.2.2.2.2.2.2.2.2.2.2.2.2.2.2.2.2.2.2.2.1,(s3.2.2.2.1.1.2.2.2.2.2.2.2.2.2.2.2.2.2.2.2.2.2.2.2.2.2.1,(s3.2.2.2.1.1.2.2.2.2.2.2.2.2.2.2.2.2.2.2.2.2.2.2.2.2.2.2.1,(s3.2.2.2.1.1.2.2.2.2.2.2.2.2.2.2.2.2.2.2.2.2.2.2.2.2.2.2.2.1,(s3.2.2.2.1.1.2.2.2.2.2.2.2.2.2.2.2.2.2.2.2.2.2.2.2.2.2.2.2.2.1,(s3.2.2.2.1.1.2.2.2.2.2.2.2.2.2.2.2.2.2.2.2.2.2.2.2.2.2.2.2.2.2.1,(s3.2.2.2.1.1.2.2.2.2.2.2.2.2.2.2.2.2.2.2.2.2.2.2.2.2.2.2.2.2.2.2.1,(s3.2.2.2.1.1.2.2.2.2.2.2.2.2.2.2.2.2.2.2.2.2.2.2.2.2.2.2.2.2.2.2.2.1,(s3.2.2.2.1.1.2.2.2.2.2.2.2.2.2.2.2.2.2.2.2.2.2.2.2.2.2.2.2.2.2.2.2.2.1,(s3.2.2.2.1.1.2.2.2.2.2.2.2.2.2.2.2.2.2.2.2.2.2.2.2.2.2.2.2.2.2.2.2.2.2.1,(s3.2.2.2.1.1.2.2.2.2.2.2.2.2.2.2.2.2.2.2.2.2.2.2.2.2.2.2.2.2.2.2.2.2.2.2.1,s3.2.2.2.1.1.2.2.2.2.2.2.2.2.2.2.2.2.2.2.2.2.2.2.2.2.2.2.2.2.2.2.2.2.2.2.2.1))))))))))))))))))),(0,())),(s.2.2.2.2.1,(s.2.2.2.2.2.1,(d2,()))))) (some ((((s3.2.2.2.1.1.2.2.2.2.2.2.1,(s3.2.2.2.1.1.2.2.2.2.2.2.2.1,(s3.2.2.2.1.1.2.2.2.2.2.2.2.2.1,(s3.2.2.2.1.1.2.2.2.2.2.2.2.2.2.1,(s3.2.2.2.1.1.2.2.2.2.2.2.2.2.2.2.1,(s3.2.2.2.1.1.2.2.2.2.2.2.2.2.2.2.2.1,s3.2.2.2.1.1.2.2.2.2.2.2.2.2.2.2.2.2.1)))))),(s3.2.2.2.1.1.2.2.2.2.2.2.2.2.2.2.2.2.2.1,(s3.2.2.2.1.1.2.2.2.2.2.2.2.2.2.2.2.2.2.2.1,(s3.2.2.2.1.1.2.2.2.2.2.2.2.2.2.2.2.2.2.2.2.1,(s3.2.2.2.1.1.2.2.2.2.2.2.2.2.2.2.2.2.2.2.2.2.1,(s3.2.2.2.1.1.2.2.2.2.2.2.2.2.2.2.2.2.2.2.2.2.2.1,(s3.2.2.2.1.1.2.2.2.2.2.2.2.2.2.2.2.2.2.2.2.2.2.2.1,(s3.2.2.2.1.1.2.2.2.2.2.2.2.2.2.2.2.2.2.2.2.2.2.2.2.1,(s3.2.2.2.1.1.2.2.2.2.2.2.2.2.2.2.2.2.2.2.2.2.2.2.2.2.1,(s3.2.2.2.1.1.2.2.2.2.2.2.2.2.2.2.2.2.2.2.2.2.2.2.2.2.2.1,(s3.2.2.2.1.1.2.2.2.2.2.2.2.2.2.2.2.2.2.2.2.2.2.2.2.2.2.2.1,(s3.2.2.2.1.1.2.2.2.2.2.2.2.2.2.2.2.2.2.2.2.2.2.2.2.2.2.2.2.1,(s3.2.2.2.1.1.2.2.2.2.2.2.2.2.2.2.2.2.2.2.2.2.2.2.2.2.2.2.2.2.1,(s3.2.2.2.1.1.2.2.2.2.2.2.2.2.2.2.2.2.2.2.2.2.2.2.2.2.2.2.2.2.2.1,(s3.2.2.2.1.1.2.2.2.2.2.2.2.2.2.2.2.2.2.2.2.2.2.2.2.2.2.2.2.2.2.2.1,(s3.2.2.2.1.1.2.2.2.2.2.2.2.2.2.2.2.2.2.2.2.2.2.2.2.2.2.2.2.2.2.2.2.1,(s3.2.2.2.1.1.2.2.2.2.2.2.2.2.2.2.2.2.2.2.2.2.2.2.2.2.2.2.2.2.2.2.2.2.1,(s3.2.2.2.1.1.2.2.2.2.2.2.2.2.2.2.2.2.2.2.2.2.2.2.2.2.2.2.2.2.2.2.2.2.2.1,(s3.2.2.2.1.1.2.2.2.2.2.2.2.2.2.2.2.2.2.2.2.2.2.2.2.2.2.2.2.2.2.2.2.2.2.2.1,s3.2.2.2.1.1.2.2.2.2.2.2.2.2.2.2.2.2.2.2.2.2.2.2.2.2.2.2.2.2.2.2.2.2.2.2.2.1))))))))))))))))))),(0,())),(s.2.2.2.2.1,(s.2.2.2.2.2.1,(d2,())))))))))
def g.mP (a0:U4) (a1:(Option Nat)) (a2:Nat) (a3:U1) (d1:T2) (d2:T9) (v0:(((Int×(Int×(Int×(Bool×(Int×Int)))))×(Int×Unit))×Unit)) (k:(((Int×Unit)×(((List Int)×((List Int)×Unit))×(Unit×(Unit×(T1×Unit)))))→(Option ((U1×(Int×Unit))×(T1×(T2×(T9×Unit))))))) (s:((Int×Unit)×(((List Int)×((List Int)×Unit))×(Unit×(Unit×(T1×Unit)))))):(Option ((U1×(Int×Unit))×(T1×(T2×(T9×Unit))))):=(br (aX s.1.1 (zN (len (rep (α:=Int) (nN v0.1.1.2.1) 0)))) (bd (g.jF a2 (nth 0 a3.2.2.2.2.2.2.2.2.2.2.1 (nN (aD .i64 (zN (len a3.2.2.2.2.2.2.2.2.2.2.1)) 1))) s.1.1 s.2.2.2.2.1 d1) (fun p0=>(gd (bw s.1.1) (gd (bD (nN s.1.1) (len s.2.1.1)) (gd (bw s.1.1) (gd (bD (nN s.1.1) (len (upd s.2.1.1 (nN s.1.1) p0.1.1))) (bd (g.aQ a2 (nth 0 (upd s.2.1.1 (nN s.1.1) p0.1.1) (nN s.1.1)) s.2.2.2.2.1 d1) (fun p1=>(gd (bw s.1.1) (gd (bD (nN s.1.1) (len s.2.1.2.1)) (k (((ae .i64 s.1.1 1),()),(((upd s.2.1.1 (nN s.1.1) p0.1.1),((upd s.2.1.2.1 (nN s.1.1) p1.1.1),())),((),((),(s.2.2.2.2.1,())))))))))))))))) (opt a1 (bd (g.l5 none v0.1.1.2.2.1 d2) (fun p2=>(bd (g.l4 p2.1.1 a3.2.2.2.2.2.2.2.2.2.2.2.1 s.2.1.2.1) (fun p3=>(loop (g.kc a0 a1 a2 a3 d2 s p3 p2) ((0,()),((),((),((),(s.2.2.2.2.1,(d1,()))))))))))) (fun p4=>(bd (g.l5 (some p4) v0.1.1.2.2.1 d2) (fun p5=>(bd (g.l4 p5.1.1 a3.2.2.2.2.2.2.2.2.2.2.2.1 s.2.1.2.1) (fun p6=>(loop (g.kc a0 a1 a2 a3 d2 s p6 p5) ((0,()),((),((),((),(s.2.2.2.2.1,(d1,()))))))))))))))
def g.gX (a0:U4) (a1:(Option Nat)) (a2:Nat) (a3:U1) (d0:T1) (d1:T2) (d2:T9):(Option ((U1×(Int×Unit))×(T1×(T2×(T9×Unit))))):=(br (af a3.2.1 15) (jn (fun (k0:U0→_)=>(br a3.2.2.2.2.2.2.2.2.2.2.2.2.2.2.2.1 (some ((((0,(0,(0,(0,(0,(0,0)))))),(0,(0,(0,(0,([],(0,(0,(0,(0,([],(0,([],(0,(false,(false,(false,(0,(0,[]))))))))))))))))))),(1,())),(d0,(d1,(d2,()))))) (k0 ((),((),((),(((0,(0,(0,(0,(0,(0,(0,(0,(0,(0,(0,([],(0,(0,(0,(0,([],(0,([],(0,(false,(false,(false,(0,(0,([],())))))))))))))))))))))))))),()),()))))))) (fun (s1:U0)=>(bd (g.cQ a0 0 a3.2.2.1) (fun p2=>(bd (g.aQ a2 p2.1.1 d0 d1) (fun p3=>(bd (g.dP p3.1.1) (fun p4=>(bd (g.mv p4.1.1) (fun p5=>(bd (g.gB p5.1.1) (fun p6=>(some (((a3.1,(16,(a3.2.2.1,(a3.2.2.2.1,(a3.2.2.2.2.1,(a3.2.2.2.2.2.1,(p3.1.1,(p6.1.1,a3.2.2.2.2.2.2.2.2)))))))),(0,())),(d0,(d1,(d2,()))))))))))))))))) (br (af a3.2.1 16) (jn (fun (k7:U0→_)=>(br a3.2.2.2.2.2.2.2.2.2.2.2.2.2.2.2.1 (some ((((0,(0,(0,(0,(0,(0,0)))))),(0,(0,(0,(0,([],(0,(0,(0,(0,([],(0,([],(0,(false,(false,(false,(0,(0,[]))))))))))))))))))),(1,())),(d0,(d1,(d2,()))))) (k7 ((),((),((),(((0,(0,(0,(0,(0,(0,(0,(0,(0,(0,(0,([],(0,(0,(0,(0,([],(0,([],(0,(false,(false,(false,(0,(0,([],())))))))))))))))))))))))))),()),()))))))) (fun (s8:U0)=>(bd (g.cQ a0 0 a3.2.2.1) (fun p9=>(bd (g.dQ a2 p9.1.1 a3.2.2.2.2.2.2.1 a3.2.2.2.2.2.2.2.1 d0 d1) (fun dj=>(bd (g.dP a3.2.2.2.2.2.2.2.1) (fun kC=>(br (ax dj.1.1) (some (((a3.1,(15,(a3.2.2.1,(a3.2.2.2.1,(a3.2.2.2.2.1,(a3.2.2.2.2.2.1,(0,(0,a3.2.2.2.2.2.2.2.2)))))))),(0,())),(d0,(dj.2.1,(d2,()))))) (br (af kC.1.1.1 3) (some (((a3.1,(17,a3.2.2)),(0,())),(d0,(dj.2.1,(d2,()))))) (bd (g.bc a3 0 0) (fun cw=>(some ((cw.1.1,(0,())),(d0,(dj.2.1,(d2,()))))))))))))))))) (br (af a3.2.1 17) (jn (fun (SM:U0→_)=>(br a3.2.2.2.2.2.2.2.2.2.2.2.2.2.2.2.1 (some ((((0,(0,(0,(0,(0,(0,0)))))),(0,(0,(0,(0,([],(0,(0,(0,(0,([],(0,([],(0,(false,(false,(false,(0,(0,[]))))))))))))))))))),(1,())),(d0,(d1,(d2,()))))) (SM ((),((),((),(((0,(0,(0,(0,(0,(0,(0,(0,(0,(0,(0,([],(0,(0,(0,(0,([],(0,([],(0,(false,(false,(false,(0,(0,([],())))))))))))))))))))))))))),()),()))))))) (fun (s14:U0)=>(bd (g.cQ a0 1 a3.2.2.1) (fun dH=>(bd (g.aQ a2 dH.1.1 d0 d1) (fun eT=>(some (((a3.1,(18,(a3.2.2.1,(a3.2.2.2.1,(a3.2.2.2.2.1,(a3.2.2.2.2.2.1,(eT.1.1,(a3.2.2.2.2.2.2.2.1,((cJ .i64 eT.1.1),a3.2.2.2.2.2.2.2.2.2))))))))),(0,())),(d0,(d1,(d2,()))))))))))) (br (af a3.2.1 18) (jn (fun (Hn:U0→_)=>(br a3.2.2.2.2.2.2.2.2.2.2.2.2.2.2.2.1 (some ((((0,(0,(0,(0,(0,(0,0)))))),(0,(0,(0,(0,([],(0,(0,(0,(0,([],(0,([],(0,(false,(false,(false,(0,(0,[]))))))))))))))))))),(1,())),(d0,(d1,(d2,()))))) (Hn ((),((),((),(((0,(0,(0,(0,(0,(0,(0,(0,(0,(0,(0,([],(0,(0,(0,(0,([],(0,([],(0,(false,(false,(false,(0,(0,([],())))))))))))))))))))))))))),()),()))))))) (fun (s18:U0)=>(bd (g.cQ a0 3 a3.2.2.1) (fun kB=>(bd (g.aQ a2 kB.1.1 d0 d1) (fun dS=>(br (aX a3.2.2.2.2.2.2.2.2.1 (ae .i64 a3.2.2.2.2.2.2.2.2.1 (cJ .i64 dS.1.1))) (some (((a3.1,(19,(a3.2.2.1,(a3.2.2.2.1,(a3.2.2.2.2.1,(a3.2.2.2.2.2.1,(a3.2.2.2.2.2.2.1,(a3.2.2.2.2.2.2.2.1,(a3.2.2.2.2.2.2.2.2.1,((ae .i64 a3.2.2.2.2.2.2.2.2.1 (cJ .i64 dS.1.1)),a3.2.2.2.2.2.2.2.2.2.2)))))))))),(0,())),(d0,(d1,(d2,()))))) (br (aX 0 (zN (len a3.2.2.2.2.2.2.2.2.2.2.1))) (some (((a3.1,(20,(a3.2.2.1,(a3.2.2.2.1,(a3.2.2.2.2.1,(a3.2.2.2.2.2.1,(a3.2.2.2.2.2.2.1,(a3.2.2.2.2.2.2.2.1,(a3.2.2.2.2.2.2.2.2.1,((ae .i64 a3.2.2.2.2.2.2.2.2.1 (cJ .i64 dS.1.1)),a3.2.2.2.2.2.2.2.2.2.2)))))))))),(0,())),(d0,(d1,(d2,()))))) (br a3.2.2.2.2.2.2.2.2.2.2.2.2.2.2.1 (some (((a3.1,(22,(a3.2.2.1,(a3.2.2.2.1,(a3.2.2.2.2.1,(a3.2.2.2.2.2.1,(a3.2.2.2.2.2.2.1,(a3.2.2.2.2.2.2.2.1,(a3.2.2.2.2.2.2.2.2.1,((ae .i64 a3.2.2.2.2.2.2.2.2.1 (cJ .i64 dS.1.1)),a3.2.2.2.2.2.2.2.2.2.2)))))))))),(0,())),(d0,(d1,(d2,()))))) (some (((a3.1,(23,(a3.2.2.1,(a3.2.2.2.1,(a3.2.2.2.2.1,(a3.2.2.2.2.2.1,(a3.2.2.2.2.2.2.1,(a3.2.2.2.2.2.2.2.1,(a3.2.2.2.2.2.2.2.2.1,((ae .i64 a3.2.2.2.2.2.2.2.2.1 (cJ .i64 dS.1.1)),a3.2.2.2.2.2.2.2.2.2.2)))))))))),(0,())),(d0,(d1,(d2,())))))))))))))) (br (af a3.2.1 19) (jn (fun (WT:U0→_)=>(br a3.2.2.2.2.2.2.2.2.2.2.2.2.2.2.2.1 (some ((((0,(0,(0,(0,(0,(0,0)))))),(0,(0,(0,(0,([],(0,(0,(0,(0,([],(0,([],(0,(false,(false,(false,(0,(0,[]))))))))))))))))))),(1,())),(d0,(d1,(d2,()))))) (WT ((),((),((),(((0,(0,(0,(0,(0,(0,(0,(0,(0,(0,(0,([],(0,(0,(0,(0,([],(0,([],(0,(false,(false,(false,(0,(0,([],())))))))))))))))))))))))))),()),()))))))) (fun (np:U0)=>(bd (g.g9 a2 a3.2.2.2.2.2.2.2.2.1 d0 d1) (fun fc=>(br (ax fc.1.1.2.2.2.1) (opt a1 (bd (g.l5 none fc.1.1.2.2.1 d2) (fun jk=>(br (aX 0 (zN (len jk.1.1))) (gd (bp (len a3.2.2.2.2.2.2.2.2.2.2.1) 16777216) (gd (bp (aK (len a3.2.2.2.2.2.2.2.2.2.2.1) (len [a3.2.2.2.2.2.2.2.2.1])) 16777216) (br (aX (ae .i64 a3.2.2.2.2.2.2.2.2.1 (dO .i64 fc.1.1.1 8)) a3.2.2.2.2.2.2.2.2.2.1) (some (((a3.1,(19,(a3.2.2.1,(a3.2.2.2.1,(a3.2.2.2.2.1,(a3.2.2.2.2.2.1,(a3.2.2.2.2.2.2.1,(a3.2.2.2.2.2.2.2.1,((ae .i64 a3.2.2.2.2.2.2.2.2.1 (dO .i64 fc.1.1.1 8)),(a3.2.2.2.2.2.2.2.2.2.1,((cat a3.2.2.2.2.2.2.2.2.2.2.1 [a3.2.2.2.2.2.2.2.2.1]),a3.2.2.2.2.2.2.2.2.2.2.2))))))))))),(0,())),(d0,(d1,(d2,()))))) (br (aX 0 (zN (len (cat a3.2.2.2.2.2.2.2.2.2.2.1 [a3.2.2.2.2.2.2.2.2.1])))) (some (((a3.1,(20,(a3.2.2.1,(a3.2.2.2.1,(a3.2.2.2.2.1,(a3.2.2.2.2.2.1,(a3.2.2.2.2.2.2.1,(a3.2.2.2.2.2.2.2.1,((ae .i64 a3.2.2.2.2.2.2.2.2.1 (dO .i64 fc.1.1.1 8)),(a3.2.2.2.2.2.2.2.2.2.1,((cat a3.2.2.2.2.2.2.2.2.2.2.1 [a3.2.2.2.2.2.2.2.2.1]),a3.2.2.2.2.2.2.2.2.2.2.2))))))))))),(0,())),(d0,(d1,(d2,()))))) (br a3.2.2.2.2.2.2.2.2.2.2.2.2.2.2.1 (some (((a3.1,(22,(a3.2.2.1,(a3.2.2.2.1,(a3.2.2.2.2.1,(a3.2.2.2.2.2.1,(a3.2.2.2.2.2.2.1,(a3.2.2.2.2.2.2.2.1,((ae .i64 a3.2.2.2.2.2.2.2.2.1 (dO .i64 fc.1.1.1 8)),(a3.2.2.2.2.2.2.2.2.2.1,((cat a3.2.2.2.2.2.2.2.2.2.2.1 [a3.2.2.2.2.2.2.2.2.1]),a3.2.2.2.2.2.2.2.2.2.2.2))))))))))),(0,())),(d0,(d1,(d2,()))))) (some (((a3.1,(23,(a3.2.2.1,(a3.2.2.2.1,(a3.2.2.2.2.1,(a3.2.2.2.2.2.1,(a3.2.2.2.2.2.2.1,(a3.2.2.2.2.2.2.2.1,((ae .i64 a3.2.2.2.2.2.2.2.2.1 (dO .i64 fc.1.1.1 8)),(a3.2.2.2.2.2.2.2.2.2.1,((cat a3.2.2.2.2.2.2.2.2.2.2.1 [a3.2.2.2.2.2.2.2.2.1]),a3.2.2.2.2.2.2.2.2.2.2.2))))))))))),(0,())),(d0,(d1,(d2,())))))))))) (br (aX (ae .i64 a3.2.2.2.2.2.2.2.2.1 (dO .i64 fc.1.1.1 8)) a3.2.2.2.2.2.2.2.2.2.1) (some (((a3.1,(19,(a3.2.2.1,(a3.2.2.2.1,(a3.2.2.2.2.1,(a3.2.2.2.2.2.1,(a3.2.2.2.2.2.2.1,(a3.2.2.2.2.2.2.2.1,((ae .i64 a3.2.2.2.2.2.2.2.2.1 (dO .i64 fc.1.1.1 8)),a3.2.2.2.2.2.2.2.2.2))))))))),(0,())),(d0,(d1,(d2,()))))) (br (aX 0 (zN (len a3.2.2.2.2.2.2.2.2.2.2.1))) (some (((a3.1,(20,(a3.2.2.1,(a3.2.2.2.1,(a3.2.2.2.2.1,(a3.2.2.2.2.2.1,(a3.2.2.2.2.2.2.1,(a3.2.2.2.2.2.2.2.1,((ae .i64 a3.2.2.2.2.2.2.2.2.1 (dO .i64 fc.1.1.1 8)),a3.2.2.2.2.2.2.2.2.2))))))))),(0,())),(d0,(d1,(d2,()))))) (br a3.2.2.2.2.2.2.2.2.2.2.2.2.2.2.1 (some (((a3.1,(22,(a3.2.2.1,(a3.2.2.2.1,(a3.2.2.2.2.1,(a3.2.2.2.2.2.1,(a3.2.2.2.2.2.2.1,(a3.2.2.2.2.2.2.2.1,((ae .i64 a3.2.2.2.2.2.2.2.2.1 (dO .i64 fc.1.1.1 8)),a3.2.2.2.2.2.2.2.2.2))))))))),(0,())),(d0,(d1,(d2,()))))) (some (((a3.1,(23,(a3.2.2.1,(a3.2.2.2.1,(a3.2.2.2.2.1,(a3.2.2.2.2.2.1,(a3.2.2.2.2.2.2.1,(a3.2.2.2.2.2.2.2.1,((ae .i64 a3.2.2.2.2.2.2.2.2.1 (dO .i64 fc.1.1.1 8)),a3.2.2.2.2.2.2.2.2.2))))))))),(0,())),(d0,(d1,(d2,()))))))))))) (fun eY=>(bd (g.l5 (some eY) fc.1.1.2.2.1 d2) (fun eA=>(br (aX 0 (zN (len eA.1.1))) (gd (bp (len a3.2.2.2.2.2.2.2.2.2.2.1) 16777216) (gd (bp (aK (len a3.2.2.2.2.2.2.2.2.2.2.1) (len [a3.2.2.2.2.2.2.2.2.1])) 16777216) (br (aX (ae .i64 a3.2.2.2.2.2.2.2.2.1 (dO .i64 fc.1.1.1 8)) a3.2.2.2.2.2.2.2.2.2.1) (some (((a3.1,(19,(a3.2.2.1,(a3.2.2.2.1,(a3.2.2.2.2.1,(a3.2.2.2.2.2.1,(a3.2.2.2.2.2.2.1,(a3.2.2.2.2.2.2.2.1,((ae .i64 a3.2.2.2.2.2.2.2.2.1 (dO .i64 fc.1.1.1 8)),(a3.2.2.2.2.2.2.2.2.2.1,((cat a3.2.2.2.2.2.2.2.2.2.2.1 [a3.2.2.2.2.2.2.2.2.1]),a3.2.2.2.2.2.2.2.2.2.2.2))))))))))),(0,())),(d0,(d1,(d2,()))))) (br (aX 0 (zN (len (cat a3.2.2.2.2.2.2.2.2.2.2.1 [a3.2.2.2.2.2.2.2.2.1])))) (some (((a3.1,(20,(a3.2.2.1,(a3.2.2.2.1,(a3.2.2.2.2.1,(a3.2.2.2.2.2.1,(a3.2.2.2.2.2.2.1,(a3.2.2.2.2.2.2.2.1,((ae .i64 a3.2.2.2.2.2.2.2.2.1 (dO .i64 fc.1.1.1 8)),(a3.2.2.2.2.2.2.2.2.2.1,((cat a3.2.2.2.2.2.2.2.2.2.2.1 [a3.2.2.2.2.2.2.2.2.1]),a3.2.2.2.2.2.2.2.2.2.2.2))))))))))),(0,())),(d0,(d1,(d2,()))))) (br a3.2.2.2.2.2.2.2.2.2.2.2.2.2.2.1 (some (((a3.1,(22,(a3.2.2.1,(a3.2.2.2.1,(a3.2.2.2.2.1,(a3.2.2.2.2.2.1,(a3.2.2.2.2.2.2.1,(a3.2.2.2.2.2.2.2.1,((ae .i64 a3.2.2.2.2.2.2.2.2.1 (dO .i64 fc.1.1.1 8)),(a3.2.2.2.2.2.2.2.2.2.1,((cat a3.2.2.2.2.2.2.2.2.2.2.1 [a3.2.2.2.2.2.2.2.2.1]),a3.2.2.2.2.2.2.2.2.2.2.2))))))))))),(0,())),(d0,(d1,(d2,()))))) (some (((a3.1,(23,(a3.2.2.1,(a3.2.2.2.1,(a3.2.2.2.2.1,(a3.2.2.2.2.2.1,(a3.2.2.2.2.2.2.1,(a3.2.2.2.2.2.2.2.1,((ae .i64 a3.2.2.2.2.2.2.2.2.1 (dO .i64 fc.1.1.1 8)),(a3.2.2.2.2.2.2.2.2.2.1,((cat a3.2.2.2.2.2.2.2.2.2.2.1 [a3.2.2.2.2.2.2.2.2.1]),a3.2.2.2.2.2.2.2.2.2.2.2))))))))))),(0,())),(d0,(d1,(d2,())))))))))) (br (aX (ae .i64 a3.2.2.2.2.2.2.2.2.1 (dO .i64 fc.1.1.1 8)) a3.2.2.2.2.2.2.2.2.2.1) (some (((a3.1,(19,(a3.2.2.1,(a3.2.2.2.1,(a3.2.2.2.2.1,(a3.2.2.2.2.2.1,(a3.2.2.2.2.2.2.1,(a3.2.2.2.2.2.2.2.1,((ae .i64 a3.2.2.2.2.2.2.2.2.1 (dO .i64 fc.1.1.1 8)),a3.2.2.2.2.2.2.2.2.2))))))))),(0,())),(d0,(d1,(d2,()))))) (br (aX 0 (zN (len a3.2.2.2.2.2.2.2.2.2.2.1))) (some (((a3.1,(20,(a3.2.2.1,(a3.2.2.2.1,(a3.2.2.2.2.1,(a3.2.2.2.2.2.1,(a3.2.2.2.2.2.2.1,(a3.2.2.2.2.2.2.2.1,((ae .i64 a3.2.2.2.2.2.2.2.2.1 (dO .i64 fc.1.1.1 8)),a3.2.2.2.2.2.2.2.2.2))))))))),(0,())),(d0,(d1,(d2,()))))) (br a3.2.2.2.2.2.2.2.2.2.2.2.2.2.2.1 (some (((a3.1,(22,(a3.2.2.1,(a3.2.2.2.1,(a3.2.2.2.2.1,(a3.2.2.2.2.2.1,(a3.2.2.2.2.2.2.1,(a3.2.2.2.2.2.2.2.1,((ae .i64 a3.2.2.2.2.2.2.2.2.1 (dO .i64 fc.1.1.1 8)),a3.2.2.2.2.2.2.2.2.2))))))))),(0,())),(d0,(d1,(d2,()))))) (some (((a3.1,(23,(a3.2.2.1,(a3.2.2.2.1,(a3.2.2.2.2.1,(a3.2.2.2.2.2.1,(a3.2.2.2.2.2.2.1,(a3.2.2.2.2.2.2.2.1,((ae .i64 a3.2.2.2.2.2.2.2.2.1 (dO .i64 fc.1.1.1 8)),a3.2.2.2.2.2.2.2.2.2))))))))),(0,())),(d0,(d1,(d2,()))))))))))))) (br (aX (ae .i64 a3.2.2.2.2.2.2.2.2.1 (dO .i64 fc.1.1.1 8)) a3.2.2.2.2.2.2.2.2.2.1) (some (((a3.1,(19,(a3.2.2.1,(a3.2.2.2.1,(a3.2.2.2.2.1,(a3.2.2.2.2.2.1,(a3.2.2.2.2.2.2.1,(a3.2.2.2.2.2.2.2.1,((ae .i64 a3.2.2.2.2.2.2.2.2.1 (dO .i64 fc.1.1.1 8)),a3.2.2.2.2.2.2.2.2.2))))))))),(0,())),(d0,(d1,(d2,()))))) (br (aX 0 (zN (len a3.2.2.2.2.2.2.2.2.2.2.1))) (some (((a3.1,(20,(a3.2.2.1,(a3.2.2.2.1,(a3.2.2.2.2.1,(a3.2.2.2.2.2.1,(a3.2.2.2.2.2.2.1,(a3.2.2.2.2.2.2.2.1,((ae .i64 a3.2.2.2.2.2.2.2.2.1 (dO .i64 fc.1.1.1 8)),a3.2.2.2.2.2.2.2.2.2))))))))),(0,())),(d0,(d1,(d2,()))))) (br a3.2.2.2.2.2.2.2.2.2.2.2.2.2.2.1 (some (((a3.1,(22,(a3.2.2.1,(a3.2.2.2.1,(a3.2.2.2.2.1,(a3.2.2.2.2.2.1,(a3.2.2.2.2.2.2.1,(a3.2.2.2.2.2.2.2.1,((ae .i64 a3.2.2.2.2.2.2.2.2.1 (dO .i64 fc.1.1.1 8)),a3.2.2.2.2.2.2.2.2.2))))))))),(0,())),(d0,(d1,(d2,()))))) (some (((a3.1,(23,(a3.2.2.1,(a3.2.2.2.1,(a3.2.2.2.2.1,(a3.2.2.2.2.2.1,(a3.2.2.2.2.2.2.1,(a3.2.2.2.2.2.2.2.1,((ae .i64 a3.2.2.2.2.2.2.2.2.1 (dO .i64 fc.1.1.1 8)),a3.2.2.2.2.2.2.2.2.2))))))))),(0,())),(d0,(d1,(d2,()))))))))))))) (br (af a3.2.1 20) (jn (fun (k27:U0→_)=>(br a3.2.2.2.2.2.2.2.2.2.2.2.2.2.2.2.1 (some ((((0,(0,(0,(0,(0,(0,0)))))),(0,(0,(0,(0,([],(0,(0,(0,(0,([],(0,([],(0,(false,(false,(false,(0,(0,[]))))))))))))))))))),(1,())),(d0,(d1,(d2,()))))) (k27 ((),((),((),(((0,(0,(0,(0,(0,(0,(0,(0,(0,(0,(0,([],(0,(0,(0,(0,([],(0,([],(0,(false,(false,(false,(0,(0,([],())))))))))))))))))))))))))),()),()))))))) (fun (s28:U0)=>(gd (bw (aD .i64 (zN (len a3.2.2.2.2.2.2.2.2.2.2.1)) 1)) (gd (bD (nN (aD .i64 (zN (len a3.2.2.2.2.2.2.2.2.2.2.1)) 1)) (len a3.2.2.2.2.2.2.2.2.2.2.1)) (bd (g.g9 a2 (nth 0 a3.2.2.2.2.2.2.2.2.2.2.1 (nN (aD .i64 (zN (len a3.2.2.2.2.2.2.2.2.2.2.1)) 1))) d0 d1) (fun je=>(gd (bw je.1.1.2.1) (gd (bp (nN je.1.1.2.1) 16777216) (gd (bw je.1.1.2.1) (gd (bp (nN je.1.1.2.1) 16777216) (loop (g.mP a0 a1 a2 a3 d1 d2 je) ((0,()),(((rep (α:=Int) (nN je.1.1.2.1) 0),((rep (α:=Int) (nN je.1.1.2.1) 0),())),((),((),(d0,())))))))))))))))) (br (af a3.2.1 21) (jn (fun (tI:U0→_)=>(br a3.2.2.2.2.2.2.2.2.2.2.2.2.2.2.2.1 (some ((((0,(0,(0,(0,(0,(0,0)))))),(0,(0,(0,(0,([],(0,(0,(0,(0,([],(0,([],(0,(false,(false,(false,(0,(0,[]))))))))))))))))))),(1,())),(d0,(d1,(d2,()))))) (tI ((),((),((),(((0,(0,(0,(0,(0,(0,(0,(0,(0,(0,(0,([],(0,(0,(0,(0,([],(0,([],(0,(false,(false,(false,(0,(0,([],())))))))))))))))))))))))))),()),()))))))) (fun (s52:U0)=>(gd (bw (aD .i64 (zN (len a3.2.2.2.2.2.2.2.2.2.2.1)) 1)) (gd (bD (nN (aD .i64 (zN (len a3.2.2.2.2.2.2.2.2.2.2.1)) 1)) (len a3.2.2.2.2.2.2.2.2.2.2.1)) (bd (g.kQ a2 (nth 0 a3.2.2.2.2.2.2.2.2.2.2.1 (nN (aD .i64 (zN (len a3.2.2.2.2.2.2.2.2.2.2.1)) 1))) d0 d1) (fun De=>(gd (bw (aD .i64 (zN (len a3.2.2.2.2.2.2.2.2.2.2.1)) 1)) (gd (bp 0 (nN (aD .i64 (zN (len a3.2.2.2.2.2.2.2.2.2.2.1)) 1))) (gd (bp (nN (aD .i64 (zN (len a3.2.2.2.2.2.2.2.2.2.2.1)) 1)) (len a3.2.2.2.2.2.2.2.2.2.2.1)) (gd (bp (len (tk (az (nN (aD .i64 (zN (len a3.2.2.2.2.2.2.2.2.2.2.1)) 1)) 0) (dr 0 a3.2.2.2.2.2.2.2.2.2.2.1))) 16777216) (br (aX 0 (zN (len (tk (az (nN (aD .i64 (zN (len a3.2.2.2.2.2.2.2.2.2.2.1)) 1)) 0) (dr 0 a3.2.2.2.2.2.2.2.2.2.2.1))))) (some (((a3.1,(20,(a3.2.2.1,(a3.2.2.2.1,(a3.2.2.2.2.1,(a3.2.2.2.2.2.1,(a3.2.2.2.2.2.2.1,(a3.2.2.2.2.2.2.2.1,(a3.2.2.2.2.2.2.2.2.1,(a3.2.2.2.2.2.2.2.2.2.1,((tk (az (nN (aD .i64 (zN (len a3.2.2.2.2.2.2.2.2.2.2.1)) 1)) 0) (dr 0 a3.2.2.2.2.2.2.2.2.2.2.1)),(0,(a3.2.2.2.2.2.2.2.2.2.2.2.2.1,((ae .i64 a3.2.2.2.2.2.2.2.2.2.2.2.2.2.1 1),a3.2.2.2.2.2.2.2.2.2.2.2.2.2.2)))))))))))))),(0,())),(d0,(De.2.1,(d2,()))))) (br a3.2.2.2.2.2.2.2.2.2.2.2.2.2.2.1 (some (((a3.1,(22,(a3.2.2.1,(a3.2.2.2.1,(a3.2.2.2.2.1,(a3.2.2.2.2.2.1,(a3.2.2.2.2.2.2.1,(a3.2.2.2.2.2.2.2.1,(a3.2.2.2.2.2.2.2.2.1,(a3.2.2.2.2.2.2.2.2.2.1,((tk (az (nN (aD .i64 (zN (len a3.2.2.2.2.2.2.2.2.2.2.1)) 1)) 0) (dr 0 a3.2.2.2.2.2.2.2.2.2.2.1)),(0,(a3.2.2.2.2.2.2.2.2.2.2.2.2.1,((ae .i64 a3.2.2.2.2.2.2.2.2.2.2.2.2.2.1 1),a3.2.2.2.2.2.2.2.2.2.2.2.2.2.2)))))))))))))),(0,())),(d0,(De.2.1,(d2,()))))) (some (((a3.1,(23,(a3.2.2.1,(a3.2.2.2.1,(a3.2.2.2.2.1,(a3.2.2.2.2.2.1,(a3.2.2.2.2.2.2.1,(a3.2.2.2.2.2.2.2.1,(a3.2.2.2.2.2.2.2.2.1,(a3.2.2.2.2.2.2.2.2.2.1,((tk (az (nN (aD .i64 (zN (len a3.2.2.2.2.2.2.2.2.2.2.1)) 1)) 0) (dr 0 a3.2.2.2.2.2.2.2.2.2.2.1)),(0,(a3.2.2.2.2.2.2.2.2.2.2.2.2.1,((ae .i64 a3.2.2.2.2.2.2.2.2.2.2.2.2.2.1 1),a3.2.2.2.2.2.2.2.2.2.2.2.2.2.2)))))))))))))),(0,())),(d0,(De.2.1,(d2,()))))))))))))))))) (br (af a3.2.1 22) (jn (fun (k54:U0→_)=>(br a3.2.2.2.2.2.2.2.2.2.2.2.2.2.2.2.1 (some ((((0,(0,(0,(0,(0,(0,0)))))),(0,(0,(0,(0,([],(0,(0,(0,(0,([],(0,([],(0,(false,(false,(false,(0,(0,[]))))))))))))))))))),(1,())),(d0,(d1,(d2,()))))) (k54 ((),((),((),(((0,(0,(0,(0,(0,(0,(0,(0,(0,(0,(0,([],(0,(0,(0,(0,([],(0,([],(0,(false,(false,(false,(0,(0,([],())))))))))))))))))))))))))),()),()))))))) (fun (s55:U0)=>(bd (g.dP a3.2.2.2.2.2.2.2.1) (fun ve=>(jn (fun (k57:(Unit×Fu)→_)=>(bd (g.oh ve.1.1) (fun yA=>(k57 ((),((),((),(((yA.1.1.1,(yA.1.1.2.1,(yA.1.1.2.2.1,(yA.1.1.2.2.2,())))),()),())))))))) (fun (WA:(Unit×Fu))=>(bd (g.gB (WA.2.2.2.1.1.1,(WA.2.2.2.1.1.2.1,(WA.2.2.2.1.1.2.2.1,WA.2.2.2.1.1.2.2.2.1)))) (fun Dd=>(bd (g.cQ a0 0 a3.2.2.1) (fun Sh=>(bd (g.bb a2 Sh.1.1 Dd.1.1 d0 d1) (fun Se=>(bd (g.bc a3 25 a3.2.2.2.2.2.2.2.2.2.2.2.2.2.1) (fun tn=>(some ((tn.1.1,(0,())),(d0,(Se.2.1,(d2,()))))))))))))))))))) (br (af a3.2.1 23) (jn (fun (k64:U0→_)=>(br a3.2.2.2.2.2.2.2.2.2.2.2.2.2.2.2.1 (some ((((0,(0,(0,(0,(0,(0,0)))))),(0,(0,(0,(0,([],(0,(0,(0,(0,([],(0,([],(0,(false,(false,(false,(0,(0,[]))))))))))))))))))),(1,())),(d0,(d1,(d2,()))))) (k64 ((),((),((),(((0,(0,(0,(0,(0,(0,(0,(0,(0,(0,(0,([],(0,(0,(0,(0,([],(0,([],(0,(false,(false,(false,(0,(0,([],())))))))))))))))))))))))))),()),()))))))) (fun (s65:U0)=>(bd (g.cQ a0 4 a3.2.2.1) (fun GK=>(bd (g.bb a2 GK.1.1 0 d0 d1) (fun p67=>(br (aX (cJ .i64 a3.2.2.2.2.2.2.1) a3.2.2.2.2.2.2.2.2.2.1) (some (((a3.1,(24,(a3.2.2.1,(a3.2.2.2.1,(a3.2.2.2.2.1,(a3.2.2.2.2.2.1,(a3.2.2.2.2.2.2.1,(a3.2.2.2.2.2.2.2.1,((cJ .i64 a3.2.2.2.2.2.2.1),a3.2.2.2.2.2.2.2.2.2))))))))),(0,())),(d0,(p67.2.1,(d2,()))))) (some (((a3.1,(25,(a3.2.2.1,(a3.2.2.2.1,(a3.2.2.2.2.1,(a3.2.2.2.2.2.1,(a3.2.2.2.2.2.2.1,(a3.2.2.2.2.2.2.2.1,((cJ .i64 a3.2.2.2.2.2.2.1),a3.2.2.2.2.2.2.2.2.2))))))))),(0,())),(d0,(p67.2.1,(d2,())))))))))))) (br (af a3.2.1 24) (jn (fun (k68:U0→_)=>(br a3.2.2.2.2.2.2.2.2.2.2.2.2.2.2.2.1 (some ((((0,(0,(0,(0,(0,(0,0)))))),(0,(0,(0,(0,([],(0,(0,(0,(0,([],(0,([],(0,(false,(false,(false,(0,(0,[]))))))))))))))))))),(1,())),(d0,(d1,(d2,()))))) (k68 ((),((),((),(((0,(0,(0,(0,(0,(0,(0,(0,(0,(0,(0,([],(0,(0,(0,(0,([],(0,([],(0,(false,(false,(false,(0,(0,([],())))))))))))))))))))))))))),()),()))))))) (fun (FN:U0)=>(bd (g.bb a2 a3.2.2.2.2.2.2.2.2.1 0 d0 d1) (fun p70=>(br (aX (ae .i64 a3.2.2.2.2.2.2.2.2.1 8) a3.2.2.2.2.2.2.2.2.2.1) (some (((a3.1,(24,(a3.2.2.1,(a3.2.2.2.1,(a3.2.2.2.2.1,(a3.2.2.2.2.2.1,(a3.2.2.2.2.2.2.1,(a3.2.2.2.2.2.2.2.1,((ae .i64 a3.2.2.2.2.2.2.2.2.1 8),a3.2.2.2.2.2.2.2.2.2))))))))),(0,())),(d0,(p70.2.1,(d2,()))))) (some (((a3.1,(25,(a3.2.2.1,(a3.2.2.2.1,(a3.2.2.2.2.1,(a3.2.2.2.2.2.1,(a3.2.2.2.2.2.2.1,(a3.2.2.2.2.2.2.2.1,((ae .i64 a3.2.2.2.2.2.2.2.2.1 8),a3.2.2.2.2.2.2.2.2.2))))))))),(0,())),(d0,(p70.2.1,(d2,())))))))))) (br (af a3.2.1 25) (jn (fun (k71:U0→_)=>(br a3.2.2.2.2.2.2.2.2.2.2.2.2.2.2.2.1 (some ((((0,(0,(0,(0,(0,(0,0)))))),(0,(0,(0,(0,([],(0,(0,(0,(0,([],(0,([],(0,(false,(false,(false,(0,(0,[]))))))))))))))))))),(1,())),(d0,(d1,(d2,()))))) (k71 ((),((),((),(((0,(0,(0,(0,(0,(0,(0,(0,(0,(0,(0,([],(0,(0,(0,(0,([],(0,([],(0,(false,(false,(false,(0,(0,([],())))))))))))))))))))))))))),()),()))))))) (fun (s72:U0)=>(bd (g.cQ a0 3 a3.2.2.1) (fun Lv=>(bd (g.bb a2 Lv.1.1 0 d0 d1) (fun p74=>(some (((a3.1,(26,a3.2.2)),(0,())),(d0,(p74.2.1,(d2,()))))))))))) (br (af a3.2.1 26) (jn (fun (k75:U0→_)=>(br a3.2.2.2.2.2.2.2.2.2.2.2.2.2.2.2.1 (some ((((0,(0,(0,(0,(0,(0,0)))))),(0,(0,(0,(0,([],(0,(0,(0,(0,([],(0,([],(0,(false,(false,(false,(0,(0,[]))))))))))))))))))),(1,())),(d0,(d1,(d2,()))))) (k75 ((),((),((),(((0,(0,(0,(0,(0,(0,(0,(0,(0,(0,(0,([],(0,(0,(0,(0,([],(0,([],(0,(false,(false,(false,(0,(0,([],())))))))))))))))))))))))))),()),()))))))) (fun (s76:U0)=>(bd (g.dP a3.2.2.2.2.2.2.2.1) (fun p77=>(jn (fun (k78:(Unit×Fu)→_)=>(bd (g.og p77.1.1) (fun WJ=>(k78 ((),((),((),(((WJ.1.1.1,(WJ.1.1.2.1,(WJ.1.1.2.2.1,(WJ.1.1.2.2.2,())))),()),())))))))) (fun (Wz:(Unit×Fu))=>(bd (g.gB (Wz.2.2.2.1.1.1,(Wz.2.2.2.1.1.2.1,(Wz.2.2.2.1.1.2.2.1,Wz.2.2.2.1.1.2.2.2.1)))) (fun p81=>(bd (g.cQ a0 0 a3.2.2.1) (fun p82=>(bd (g.bb a2 p82.1.1 p81.1.1 d0 d1) (fun p83=>(bd (g.bc a3 0 a3.2.2.2.2.2.2.2.2.2.2.2.2.2.1) (fun p84=>(some ((p84.1.1,(0,())),(d0,(p83.2.1,(d2,()))))))))))))))))))) (jn (fun (k85:U0→_)=>(br a3.2.2.2.2.2.2.2.2.2.2.2.2.2.2.2.1 (some ((((0,(0,(0,(0,(0,(0,0)))))),(0,(0,(0,(0,([],(0,(0,(0,(0,([],(0,([],(0,(false,(false,(false,(0,(0,[]))))))))))))))))))),(1,())),(d0,(d1,(d2,()))))) (some ((((0,(0,(0,(0,(0,(0,0)))))),(0,(0,(0,(0,([],(0,(0,(0,(0,([],(0,([],(0,(false,(false,(false,(0,(0,[]))))))))))))))))))),(1,())),(d0,(d1,(d2,()))))))) (fun (s86:U0)=>none))))))))))))))
def F64:Plain Rl:=fun x c d=>g.gX x.1 x.2.1 x.2.2.1 x.2.2.2.1 d.1 d.2.1 d.2.2.1
theorem aa9:bB Tryz.prog 64 Rl F64:=bU (ao BE (ao MN (ao xW (ao BD (ao oi (ao E1 (ao KR (ao KQ (ao VU (ao zm (ao VS (ao VR (ao VQ (ao VO (ao VN (ao VM (EY BG (aO)))))))))))))))))) fun x c d=>by kernel_rfl
def Kc:dI:=⟨[(true,(.pair (.pair (.int .u8) (.pair (.int .u8) (.pair (.int .u8) (.pair (.int .u8) (.pair (.int .i64) (.pair (.int .i64) (.int .i64))))))) (.pair (.int .i64) (.pair (.int .i64) (.pair (.int .u64) (.pair (.int .u64) (.pair (.aI (.pair (.int .i64) .bool)) (.pair (.int .u64) (.pair (.int .u64) (.pair (.int .i64) (.pair (.int .i64) (.pair (.aI (.int .i64)) (.pair (.int .i64) (.pair (.aI (.int .i64)) (.pair (.int .i64) (.pair .bool (.pair .bool (.pair .bool (.pair (.int .i64) (.pair (.int .i64) (.aI (.int .i64)))))))))))))))))))))),(true,(.pair (.pair (.int .u8) (.pair (.int .u8) (.pair (.int .u8) (.pair (.int .u8) (.pair (.int .i64) (.pair (.int .i64) (.int .i64))))))) (.pair (.int .i64) (.pair (.int .i64) (.pair (.int .u64) (.pair (.int .u64) (.pair (.aI (.pair (.int .i64) .bool)) (.pair (.int .u64) (.pair (.int .u64) (.pair (.int .i64) (.pair (.int .i64) (.pair (.aI (.int .i64)) (.pair (.int .i64) (.pair (.aI (.int .i64)) (.pair (.int .i64) (.pair .bool (.pair .bool (.pair .bool (.pair (.int .i64) (.pair (.int .i64) (.aI (.int .i64))))))))))))))))))))))],[(true,(.pair (.pair (.int .u8) (.pair (.int .u8) (.pair (.int .u8) (.pair (.int .u8) (.pair (.int .i64) (.pair (.int .i64) (.int .i64))))))) (.pair (.int .i64) (.pair (.int .i64) (.pair (.int .u64) (.pair (.int .u64) (.pair (.aI (.pair (.int .i64) .bool)) (.pair (.int .u64) (.pair (.int .u64) (.pair (.int .i64) (.pair (.int .i64) (.pair (.aI (.int .i64)) (.pair (.int .i64) (.pair (.aI (.int .i64)) (.pair (.int .i64) (.pair .bool (.pair .bool (.pair .bool (.pair (.int .i64) (.pair (.int .i64) (.aI (.int .i64))))))))))))))))))))))],[],[]⟩
def g.ll (a0:U1) (a1:U1):(Option ((U1×Unit)×Unit)):=(some (((a1.1,(a0.2.1,a1.2.2)),()),()))
def acf:Plain Kc:=fun x c d=>g.ll x.1 x.2.1
theorem V7:bB Tryz.prog 108 Kc acf:=bU (aO) fun x c d=>by kernel_rfl
def JK:dI:=⟨[(false,(.aI (.pair (.int .i64) .bool))),(false,(.int .i64))],[(false,(.int .i64))],[],[]⟩
def g.js (a0:nu) (a1:Int):pM:=(bd (g.jQ a0 a1) (fun p0=>(br (aX p0.1.1 0) (some (((-1),()),())) (gd (Hu p0.1.1 p0.1.1) (gd (bw p0.1.1) (gd (bp 0 (nN p0.1.1)) (gd (bp (nN p0.1.1) (len a0)) (bd (g.cy (tk (az (nN p0.1.1) 0) (dr 0 a0))) (fun p1=>(some ((p1.1.1,()),())))))))))))
def abM:Plain JK:=fun x c d=>g.js x.1 x.2.1
theorem VL:bB Tryz.prog 220 JK abM:=bU (ao VE (ao KV (aO))) fun x c d=>by kernel_rfl
def JW:dI:=⟨[(false,(.aI (.pair (.int .i64) .bool))),(false,(.int .i64)),(false,(.int .i64))],[(false,.bool)],[],[]⟩
def g.gC (a0:nu) (a1:Int) (k:((iv×U2)→mA)) (s:(iv×U2)):mA:=(br (aX s.1.2.1 9) (br (af s.1.1 a1) (some ((true,()),())) (bd (g.js a0 s.1.1) (fun p0=>(k ((p0.1.1,((ae .i64 s.1.2.1 1),())),((),((),((),())))))))) (some ((false,()),())))
def g.iS (a0:nu) (a1:Int) (a2:Int):mA:=(br (af a1 0) (some ((true,()),())) (loop (g.gC a0 a1) ((a2,(0,())),((),((),((),()))))))
def abY:Plain JW:=fun x c d=>g.iS x.1 x.2.1 x.2.2.1
theorem VY:bB Tryz.prog 161 JW abY:=bU (ao VL (aO)) fun x c d=>by kernel_rfl
end Go.Proofs.YtklkjncibchelaaGreat