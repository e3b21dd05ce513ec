/- what may not be -/
import Derived.ProofKit
import Derived.Test.YtfffmmahegdfiaaGreatKE
set_option maxHeartbeats 2000000
set_option linter.unusedVariables false
set_option linter.unusedSimpArgs false
namespace Go.Proofs.YtfffmmahegdfiaaGreat
open Go.Bm
open Go.ChangeShapes Go.WideShapes Go.ChangeAt Go.RowKit
theorem Tryz.own:ownKnob Tryz.prog.godebug=none:=by kernel_rfl
theorem Tryz.laidOut:laidOutB Tryz.prog=true:=by kernel_rfl
theorem re (W:World):CO Tryz.prog W 27 (.pair (.pair (.int .i64) (.pair (.int .i64) (.pair (.int .i64) (.int .i64)))) (.pair (.aH (.aH (.pair (.int .u8) (.pair (.int .i64) (.int .i64))))) (.aH (.aH (.pair (.int .u8) (.pair (.int .u8) (.pair (.int .u8) (.pair (.int .u8) (.pair (.int .i64) (.pair (.int .i64) (.int .i64))))))))))):=(mQ Tryz.underlying27 (by kernel_rfl) (.cons (mQ Tryz.underlying23 (by kernel_rfl) (.cons (iN Tryz.underlying3) rfl (by kernel_rfl) (.cons (iN Tryz.underlying3) rfl (by kernel_rfl) (.cons (iN Tryz.underlying3) rfl (by kernel_rfl) (.one (iN Tryz.underlying3) rfl (by kernel_rfl)))))) rfl (by kernel_rfl) (.cons (wc Tryz.underlying24 (by kernel_rfl) (by decide) (wc Tryz.underlying59 (by kernel_rfl) (by decide) (mQ Tryz.underlying78 (by kernel_rfl) (.cons (iN Tryz.underlying5) rfl (by kernel_rfl) (.cons (iN Tryz.underlying3) rfl (by kernel_rfl) (.one (iN Tryz.underlying3) rfl (by kernel_rfl))))))) rfl (by kernel_rfl) (.one (wc Tryz.underlying25 (by kernel_rfl) (by decide) (wc Tryz.underlying49 (by kernel_rfl) (by decide) (mQ Tryz.underlying42 (by kernel_rfl) (.cons (iN Tryz.underlying5) rfl (by kernel_rfl) (.cons (iN Tryz.underlying5) rfl (by kernel_rfl) (.cons (iN Tryz.underlying5) rfl (by kernel_rfl) (.cons (iN Tryz.underlying5) rfl (by kernel_rfl) (.cons (iN Tryz.underlying3) rfl (by kernel_rfl) (.cons (iN Tryz.underlying3) rfl (by kernel_rfl) (.one (iN Tryz.underlying3) rfl (by kernel_rfl))))))))))) rfl (by kernel_rfl)))))
theorem rb (W:World):CO Tryz.prog W 5 (.int .u8):=(iN Tryz.underlying5)
set_option maxRecDepth 100000 in
theorem ot (os:Os) (started:os.Started) (H:Type) (enc:TypeId×Value→H) :
  ReturnsInHanded {} Tryz.checked os 6 .any (Rows.worldNewSpec.pre6 enc Tryz.prog Tryz.f6 Rows.worldNewRow.domain false) (Rows.worldNewSpec.post enc Tryz.prog Tryz.f6 false true false false):=by
 refine returnsInHanded_of_change (C:=Tryz.checked) Tryz.own started (by kernel_rfl) Tryz.func6
  (ChangeSpec.witness6 (enc:=enc) (C:=Tryz.checked) false ⟨#[],#[.agg #[.int .i64 0,.int .i64 0,.int .i64 0,.int .i64 0,.slice none 0 0,.slice none 0 0],.int .u8 0],[]⟩ 8 (by kernel_rfl) (by kernel_rfl) (by kernel_rfl) (by kernel_rfl)) ?_
 intro W base args ds gs before GQ hW abq _
 have pr:∀(j:Nat) t v,Tryz.f6.params[j]?=some t→args[j]?=some v→Value.okWide Tryz.prog W .any base t v:=GQ
 have Ut:=hW
 obtain ⟨p,q,RF,hV,rfl,hfz,hnd⟩:=hW
 have hA:DataW.TrodAll enc Tryz.prog W 0 (fun _=>true) true Tryz.f6.params.toList args.toList ds p:=RF
 rw [Tryz.params6] at hA pr
 obtain ⟨v0,v1,d0,d1,p0,p1,rfl,rfl,rfl,h0,h1⟩:=trodAll_two hA
 obtain ⟨rfl,rfl⟩:=trodVars_none hV
 clear RF GQ
 simp only [List.append_nil] at Ut
 obtain ⟨w0,rfl,_⟩:=okWide_struct Tryz.underlying27 (pr 0 27 v0 rfl rfl)
 obtain ⟨x0,k0,o0⟩:=C9 (re W) rfl h0
 have c1:v1.cells.toList=[v1]:=by obtain ⟨_,rfl⟩:=okWide_int Tryz.underlying5 (pr 1 5 v1 rfl rfl);rfl
 obtain ⟨x1,k1,o1⟩:=HF (rb W) rfl c1 h1
 have fp:∀x∈p0++p1,x.block<W.heap.size:=fun x hx=>Ut.lt x (by simpa using hx)
 obtain ⟨dd,hF⟩:=oP x0 x1 o0 o1
 refine (AS ct6 rfl (x0,x1,()) hF rfl (vs:=[.agg w0,v1]) rfl (fun i d v e1 e2=>?_)).mono fun e W' ⟨he,hs⟩=>?_
 ·match i with
  | 0=>cases e1;cases e2;exact k0
  | 1=>cases e1;cases e2;exact k1
  | i+2=>cases e1
 subst he
 have r0:DataW.Trod enc Tryz.prog W' 0 (fun b=>decide (b<W.heap.size)) true 27 (.agg w0) d0 p0:=
  WideElems.Trod_stays Tryz.laidOut (by kernel_rfl) (of_decide_eq_true (by kernel_rfl)) h0 (fun x hx=>hs.sameAt (fp x (by simp [hx]))) (fun x hx=>by simpa using fp x (by simp [hx]))
 have r1:DataW.Trod enc Tryz.prog W' 0 (fun b=>decide (b<W.heap.size)) true 5 (v1) d1 p1:=
  WideElems.Trod_stays Tryz.laidOut (by kernel_rfl) (of_decide_eq_true (by kernel_rfl)) h1 (fun x hx=>hs.sameAt (fp x (by simp [hx]))) (fun x hx=>by simpa using fp x (by simp [hx]))
 refine ⟨_,rfl,_,_,_,[],p0++p1,[],Ut,?_,?_,?_,hs.frame _,fun h=>by cases h⟩
 ·exact trodAll_mk1 (shut_bool Tryz.underlying4 true)
 ·exact trodAll_mk2 r0 r1
 ·exact rfl
theorem worldNew_holds:Rows.WorldNewSaid:=
 OpenClaim.holds_of_wide 6 Tryz.f6 rfl rfl rfl rfl rfl rfl rfl ⟨rfl,rfl,rfl,rfl,rfl⟩ rfl rfl rfl rfl rfl (by kernel_rfl) Tryz.func6 (by kernel_rfl)
  (of_decide_eq_true (by kernel_rfl)) (by unfold Func.isWrapper;first | (rw [if_pos (by decide +kernel)];kernel_rfl) | (rw [if_neg (by decide +kernel)];exact ⟨rfl,rfl⟩))
  (fun os started H enc _=>ot os started H enc)
end Go.Proofs.YtfffmmahegdfiaaGreat