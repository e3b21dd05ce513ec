/- ScriptPuts: from the law's reckoning to the given statement. -/
import Derived.Test.YtcbppmocgiamiaaSB
import Derived.Test.YtcbppmocgiamiaaS17
namespace Go.Proofs.Ytcbppmocgiamiaa
open Go.Pv
open Go.ChangeShapes Go.WideShapes Go.ChangeAt Go.RowKit
set_option maxRecDepth 100000 in
theorem scriptPuts_lifted (os : Os) (started : os.Started) (H : Type) (enc : TypeId × Value → H) :
    ReturnsInHanded {} Try.checked os 6 .any (Rows.scriptPutsSpec.pre6 enc Try.prog Try.f6 Rows.scriptPutsRow.domain false) (Rows.scriptPutsSpec.post enc Try.prog Try.f6 false true false false) := by
  refine returnsInHanded_of_change (C := Try.checked) Try.own started (by kernel_rfl) Try.func6
    (ChangeSpec.witness6 (enc := enc) (C := Try.checked) false ⟨#[], #[.agg #[.int .i64 0, .int .i64 0, .int .i64 0, .int .i64 0, .slice none 0 0, .slice none 0 0, .slice none 0 0]], []⟩ 8 (by kernel_rfl) (by kernel_rfl) (by kernel_rfl) (by kernel_rfl)) ?_
  intro W base args ds gs before hval0 hW hcnd _
  have hval : ∀ (j : Nat) t v, Try.f6.params[j]? = some t → args[j]? = some v → Value.okWide Try.prog W .any base t v := hval0
  have hW' := hW
  obtain ⟨p, q, hA0, hV, rfl, hfz, hnd⟩ := hW
  have hA : DataW.TrodAll enc Try.prog W 0 (fun _ => true) true Try.f6.params.toList args.toList ds p := hA0
  rw [Try.params6] at hA hval
  obtain ⟨v0, d0, rfl, rfl, h0⟩ := trodAll_one hA
  obtain ⟨rfl, rfl⟩ := trodVars_none hV
  clear hA0 hval0
  simp only [List.append_nil] at hW'
  obtain ⟨w0, rfl, _⟩ := okWide_struct Try.underlying29 (hval 0 29 v0 rfl rfl)
  obtain ⟨x0, k0, o0⟩ := rd_topA (f := fun s : Scr => [.v (.int .i64 s.sc), .v (.int .i64 s.th), .v (.int .i64 s.im), .v (.int .i64 s.hp), .sl 1 false (s.fins.map eFs), .sl 1 false (s.progs.map eCs), .sl 1 false (s.picks.map eI)]) (rdScr W) h0
  have hlt : ∀ x ∈ p, x.block < W.heap.size := fun x hx => hW'.lt x (by simpa using hx)
  refine (law_true (vs := [.agg w0]) (scriptPuts_true x0 o0.o' o0.c' (by have := o0.f.1; unfold maxLen at this; omega) (by have := o0.g.1; unfold maxLen at this; omega) (by have := o0.p.1; unfold maxLen at this; omega)) rfl (fun i d v e1 e2 => ?_)).mono fun e W' ⟨he, hs⟩ => ?_
  · match i with
    | 0 => simp at e1 e2; subst e1 e2; exact k0
    | i + 1 => simp at e1
  subst he
  have r0 : DataW.Trod enc Try.prog W' 0 (fun b => decide (b < W.heap.size)) true 29 (.agg w0) d0 p :=
    WideElems.Trod_stays Try.laidOut (by kernel_rfl) (of_decide_eq_true (by kernel_rfl)) h0 (fun x hx => hs.sameAt (hlt x hx)) (fun x hx => by simpa using hlt x hx)
  refine ⟨_, rfl, _, _, _, [], p, [], hW', ?_, ?_, ?_, hs.frame _, fun h => by cases h⟩
  · exact trodAll_mk1 (shut_bool Try.underlying4 true)
  · exact trodAll_mk1 r0
  · exact rfl
theorem scriptPuts_holds : Rows.ScriptPutsSaid :=
  OpenClaim.holds_of_wide 6 Try.f6 rfl rfl rfl rfl rfl rfl rfl ⟨rfl, rfl, rfl, rfl, rfl⟩ rfl rfl rfl rfl rfl (by kernel_rfl) Try.func6 (by kernel_rfl)
    (of_decide_eq_true (by kernel_rfl)) (by unfold Func.isWrapper; first | (rw [if_pos (by decide +kernel)]; kernel_rfl) | (rw [if_neg (by decide +kernel)]; exact ⟨rfl, rfl⟩))
    (fun os started H enc _ => scriptPuts_lifted os started H enc)
end Go.Proofs.Ytcbppmocgiamiaa
