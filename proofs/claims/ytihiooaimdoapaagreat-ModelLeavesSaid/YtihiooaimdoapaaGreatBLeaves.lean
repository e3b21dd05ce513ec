/- The statement ModelLeaves holds: proved by running the program's own code, told as plain functions, on all of its cases. No conditions. -/
import Derived.Test.YtihiooaimdoapaaGreatLL
import Derived.Test.YtihiooaimdoapaaGreatBnS
import Derived.ProofKit
set_option linter.unusedVariables false
set_option linter.unusedSimpArgs false
namespace Go.Proofs.YtihiooaimdoapaaGreat
open Go.Bm
open Go.ChangeShapes Go.WideShapes Go.ChangeAt Go.RowKit
theorem Tryz.own : ownKnob Tryz.prog.godebug = none := by kernel_rfl
theorem Tryz.laidOut : laidOutB Tryz.prog = true := by kernel_rfl
theorem modelLeaves_rd0 (W : World) : RdT Tryz.prog W 5 (.int .u8) := (rdInt Tryz.underlying5)
theorem modelLeaves_rd1 (W : World) : RdT Tryz.prog W 5 (.int .u8) := (rdInt Tryz.underlying5)
theorem modelLeaves_rd2 (W : World) : RdT Tryz.prog W 5 (.int .u8) := (rdInt Tryz.underlying5)
set_option maxRecDepth 100000 in
theorem modelLeaves_lifted (os : Os) (started : os.Started) (H : Type) (enc : TypeId × Value → H) :
    ReturnsInHanded {} Tryz.checked os 3 .any (Rows.modelLeavesSpec.pre6 enc Tryz.prog Tryz.f3 Rows.modelLeavesRow.domain false) (Rows.modelLeavesSpec.post enc Tryz.prog Tryz.f3 false true false false) := by
  refine returnsInHanded_of_change (C := Tryz.checked) Tryz.own started (by kernel_rfl) Tryz.func3
    (ChangeSpec.witness6 (enc := enc) (C := Tryz.checked) false ⟨#[], #[.int .u8 0, .int .u8 0, .int .u8 0], []⟩ 8 (by kernel_rfl) (by kernel_rfl) (by kernel_rfl) (by kernel_rfl)) ?_
  intro W base args ds gs before hval0 hW hcnd _
  have hval : ∀ (j : Nat) t v, Tryz.f3.params[j]? = some t → args[j]? = some v → Value.okWide Tryz.prog W .any base t v := hval0
  have hW' := hW
  obtain ⟨p, q, hA0, hV, rfl, hfz, hnd⟩ := hW
  have hA : DataW.TrodAll enc Tryz.prog W 0 (fun _ => true) true Tryz.f3.params.toList args.toList ds p := hA0
  rw [Tryz.params3] at hA hval
  obtain ⟨v0, v1, v2, d0, d1, d2, p0, p1, p2, rfl, rfl, rfl, h0, h1, h2⟩ := trodAll_three hA
  obtain ⟨rfl, rfl⟩ := trodVars_none hV
  clear hA0 hval0
  simp only [List.append_nil] at hW'
  have c0 : v0.cells.toList = [v0] := by obtain ⟨_, rfl⟩ := okWide_int Tryz.underlying5 (hval 0 5 v0 rfl rfl); rfl
  obtain ⟨x0, k0, o0⟩ := rd_top (modelLeaves_rd0 W) rfl c0 h0
  have c1 : v1.cells.toList = [v1] := by obtain ⟨_, rfl⟩ := okWide_int Tryz.underlying5 (hval 1 5 v1 rfl rfl); rfl
  obtain ⟨x1, k1, o1⟩ := rd_top (modelLeaves_rd1 W) rfl c1 h1
  have c2 : v2.cells.toList = [v2] := by obtain ⟨_, rfl⟩ := okWide_int Tryz.underlying5 (hval 2 5 v2 rfl rfl); rfl
  obtain ⟨x2, k2, o2⟩ := rd_top (modelLeaves_rd2 W) rfl c2 h2
  have hlt : ∀ x ∈ p0 ++ (p1 ++ p2), x.block < W.heap.size := fun x hx => hW'.lt x (by simpa using hx)
  obtain ⟨dd, hF⟩ := modelLeaves_plain x0 x1 x2 o0 o1 o2
  refine (law_true ct3 rfl (x0, x1, x2, ()) hF rfl (vs := [v0, v1, v2]) rfl (fun i d v e1 e2 => ?_)).mono fun e W' ⟨he, hs⟩ => ?_
  · match i with
    | 0 => cases e1; cases e2; exact k0
    | 1 => cases e1; cases e2; exact k1
    | 2 => cases e1; cases e2; exact k2
    | i + 3 => cases e1
  subst he
  have r0 : DataW.Trod enc Tryz.prog W' 0 (fun b => decide (b < W.heap.size)) true 5 (v0) d0 p0 :=
    WideElems.Trod_stays Tryz.laidOut (by kernel_rfl) (of_decide_eq_true (by kernel_rfl)) h0 (fun x hx => hs.sameAt (hlt x (by simp [hx]))) (fun x hx => by simpa using hlt x (by simp [hx]))
  have r1 : DataW.Trod enc Tryz.prog W' 0 (fun b => decide (b < W.heap.size)) true 5 (v1) d1 p1 :=
    WideElems.Trod_stays Tryz.laidOut (by kernel_rfl) (of_decide_eq_true (by kernel_rfl)) h1 (fun x hx => hs.sameAt (hlt x (by simp [hx]))) (fun x hx => by simpa using hlt x (by simp [hx]))
  have r2 : DataW.Trod enc Tryz.prog W' 0 (fun b => decide (b < W.heap.size)) true 5 (v2) d2 p2 :=
    WideElems.Trod_stays Tryz.laidOut (by kernel_rfl) (of_decide_eq_true (by kernel_rfl)) h2 (fun x hx => hs.sameAt (hlt x (by simp [hx]))) (fun x hx => by simpa using hlt x (by simp [hx]))
  refine ⟨_, rfl, _, _, _, [], p0 ++ (p1 ++ p2), [], hW', ?_, ?_, ?_, hs.frame _, fun h => by cases h⟩
  · exact trodAll_mk1 (shut_bool Tryz.underlying4 true)
  · exact trodAll_mk3 r0 r1 r2
  · exact rfl
theorem modelLeaves_holds : Rows.ModelLeavesSaid :=
  OpenClaim.holds_of_wide 3 Tryz.f3 rfl rfl rfl rfl rfl rfl rfl ⟨rfl, rfl, rfl, rfl, rfl⟩ rfl rfl rfl rfl rfl (by kernel_rfl) Tryz.func3 (by kernel_rfl)
    (of_decide_eq_true (by kernel_rfl)) (by unfold Func.isWrapper; first | (rw [if_pos (by decide +kernel)]; kernel_rfl) | (rw [if_neg (by decide +kernel)]; exact ⟨rfl, rfl⟩))
    (fun os started H enc _ => modelLeaves_lifted os started H enc)
end Go.Proofs.YtihiooaimdoapaaGreat
