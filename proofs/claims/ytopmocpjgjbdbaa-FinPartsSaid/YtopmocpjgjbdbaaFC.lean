/- FinParts: from the law's walk to the given statement. -/
import Derived.Test.YtopmocpjgjbdbaaF9
namespace Go.Proofs.Ytopmocpjgjbdbaa
open Go.Pv Go.ChangeShapes Go.WideShapes Go.ChangeAt Go.RowKit
set_option maxRecDepth 100000 in
theorem finParts_lifted (os : Os) (started : os.Started) (H : Type) (enc : TypeId × Value → H) :
    ReturnsInHanded {} Try.checked os 3 .any (Rows.finPartsSpec.pre6 enc Try.prog Try.f3 Rows.finPartsRow.domain false) (Rows.finPartsSpec.post enc Try.prog Try.f3 false true false false) := by
  refine returnsInHanded_of_change (C := Try.checked) Try.own started (by kernel_rfl) Try.func3
    (ChangeSpec.witness6 (enc := enc) (C := Try.checked) false ⟨#[], #[.slice none 0 0, .slice none 0 0], []⟩ 8 (by kernel_rfl) (by kernel_rfl) (by kernel_rfl) (by kernel_rfl)) ?_
  intro W base args ds gs before hval0 hW hcnd _
  have hval : ∀ (j : Nat) t v, Try.f3.params[j]? = some t → args[j]? = some v → Value.okWide Try.prog W .any base t v := hval0
  have hW' := hW
  obtain ⟨p, q, hA0, hV, rfl, hfz, hnd⟩ := hW
  have hA : DataW.TrodAll enc Try.prog W 0 (fun _ => true) true Try.f3.params.toList args.toList ds p := hA0
  rw [Try.params3] at hA hval
  obtain ⟨v0, v1, d0, d1, p0, p1, rfl, rfl, rfl, h0, h1⟩ := trodAll_two hA
  obtain ⟨rfl, rfl⟩ := trodVars_none hV
  clear hA0 hval0
  simp only [List.append_nil] at hW'
  obtain ⟨ops, k1, k2⟩ := rd_slice Try.underlying22 Try.cells32 rd_op (fun _ => rfl) (hval 0 22 v0 rfl rfl) h0
  obtain ⟨s, k3, k4⟩ := rd_slice Try.underlying23 Try.cells39 rd_u64 (fun _ => rfl) (hval 1 23 v1 rfl rfl) h1
  have hlt : ∀ x ∈ p0 ++ p1, x.block < W.heap.size := fun x hx => hW'.lt x (by simpa using hx)
  refine (law_true (vs := [v0, v1]) (finParts_true ops s k2 k4) rfl (fun i d v e1 e2 => ?_)).mono fun e W' ⟨he, hs⟩ => ?_
  · match i with
    | 0 => simp at e1 e2; subst e1 e2; exact k1
    | 1 => simp at e1 e2; subst e1 e2; exact k3
    | i + 2 => simp at e1
  subst he
  have r0 : DataW.Trod enc Try.prog W' 0 (fun b => decide (b < W.heap.size)) true 22 v0 d0 p0 :=
    WideElems.Trod_stays Try.laidOut (by kernel_rfl) (of_decide_eq_true (by kernel_rfl)) h0 (fun x hx => hs.sameAt (hlt x (by simp [hx]))) (fun x hx => by simpa using hlt x (by simp [hx]))
  have r1 : DataW.Trod enc Try.prog W' 0 (fun b => decide (b < W.heap.size)) true 23 v1 d1 p1 :=
    WideElems.Trod_stays Try.laidOut (by kernel_rfl) (of_decide_eq_true (by kernel_rfl)) h1 (fun x hx => hs.sameAt (hlt x (by simp [hx]))) (fun x hx => by simpa using hlt x (by simp [hx]))
  refine ⟨_, rfl, _, _, _, [], p0 ++ p1, [], hW', ?_, ?_, ?_, hs.frame _, fun h => by cases h⟩
  · exact trodAll_mk1 (shut_bool Try.underlying4 true)
  · exact trodAll_mk2 r0 r1
  · exact rfl
theorem finParts_holds : Rows.FinPartsSaid :=
  OpenClaim.holds_of_wide 3 Try.f3 rfl rfl rfl rfl rfl rfl rfl ⟨rfl, rfl, rfl, rfl, rfl⟩ rfl rfl rfl rfl rfl (by kernel_rfl) Try.func3 (by kernel_rfl)
    (of_decide_eq_true (by kernel_rfl)) (by unfold Func.isWrapper; first | (rw [if_pos (by decide +kernel)]; kernel_rfl) | (rw [if_neg (by decide +kernel)]; exact ⟨rfl, rfl⟩))
    (fun os started H enc _ => finParts_lifted os started H enc)
end Go.Proofs.Ytopmocpjgjbdbaa
