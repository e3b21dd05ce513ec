/- ScriptAll: from the law's reckoning to the given statement. -/
import Derived.Test.YtcbppmocgiamiaaSB
import Derived.Test.YtcbppmocgiamiaaS21
namespace Go.Proofs.Ytcbppmocgiamiaa
open Go.Pv
open Go.ChangeShapes Go.WideShapes Go.ChangeAt Go.RowKit
set_option maxRecDepth 100000 in
theorem scriptAll_lifted (os : Os) (started : os.Started) (H : Type) (enc : TypeId × Value → H) :
    ReturnsInHanded {} Try.checked os 3 .any (Rows.scriptAllSpec.pre6 enc Try.prog Try.f3 Rows.scriptAllRow.domain false) (Rows.scriptAllSpec.post enc Try.prog Try.f3 false true false false) := by
  refine returnsInHanded_of_change (C := Try.checked) Try.own started (by kernel_rfl) Try.func3
    (ChangeSpec.witness6 (enc := enc) (C := Try.checked) false ⟨#[], #[.slice none 0 0, .agg #[.int .i64 0, .int .i64 0, .int .i64 0, .int .i64 0, .slice none 0 0, .slice none 0 0, .slice none 0 0]], []⟩ 8 (by kernel_rfl) (by kernel_rfl) (by kernel_rfl) (by kernel_rfl)) ?_
  intro W base args ds gs before hval0 hW hcnd _
  have hval : ∀ (j : Nat) t v, Try.f3.params[j]? = some t → args[j]? = some v → Value.okWide Try.prog W .any base t v := hval0
  have hW' := hW
  obtain ⟨p, q, hA0, hV, rfl, hfz, hnd⟩ := hW
  have hA : DataW.TrodAll enc Try.prog W 0 (fun _ => true) true Try.f3.params.toList args.toList ds p := hA0
  rw [Try.params3] at hA hval
  obtain ⟨v0, v1, d0, d1, p0, p1, rfl, rfl, rfl, h0, h1⟩ := trodAll_two hA
  obtain ⟨rfl, rfl⟩ := trodVars_none hV
  clear hA0 hval0
  simp only [List.append_nil] at hW'
  have c0 : v0.cells.toList = [v0] := by obtain ⟨_, _, _, rfl⟩ := okWide_slice Try.underlying22 (hval 0 22 v0 rfl rfl); rfl
  obtain ⟨x0, k0, o0⟩ := rd_top1 (d := fun xs : List Int => .sl 1 false (xs.map eByte)) (rdB W) c0 h0
  obtain ⟨w1, rfl, _⟩ := okWide_struct Try.underlying29 (hval 1 29 v1 rfl rfl)
  obtain ⟨x1, k1, o1⟩ := rd_topA (f := fun s : Scr => [.v (.int .i64 s.sc), .v (.int .i64 s.th), .v (.int .i64 s.im), .v (.int .i64 s.hp), .sl 1 false (s.fins.map eFs), .sl 1 false (s.progs.map eCs), .sl 1 false (s.picks.map eI)]) (rdScr W) h1
  have hlt : ∀ x ∈ p0 ++ p1, x.block < W.heap.size := fun x hx => hW'.lt x (by simpa using hx)
  refine (law_true (vs := [v0, .agg w1]) (scriptAll_true x0 x1 o0.2 (fun l hl => (o1.g.2 l hl).2) (fun l hl => (o1.f.2 l hl).2) o1.p.2 (by have := o1.f.1; unfold maxLen at this; omega) (by have := o1.g.1; unfold maxLen at this; omega) (by have := o1.p.1; unfold maxLen at this; omega)) rfl (fun i d v e1 e2 => ?_)).mono fun e W' ⟨he, hs⟩ => ?_
  · match i with
    | 0 => simp at e1 e2; subst e1 e2; exact k0
    | 1 => simp at e1 e2; subst e1 e2; exact k1
    | i + 2 => simp at e1
  subst he
  have r0 : DataW.Trod enc Try.prog W' 0 (fun b => decide (b < W.heap.size)) true 22 (v0) d0 p0 :=
    WideElems.Trod_stays Try.laidOut (by kernel_rfl) (of_decide_eq_true (by kernel_rfl)) h0 (fun x hx => hs.sameAt (hlt x (by simp [hx]))) (fun x hx => by simpa using hlt x (by simp [hx]))
  have r1 : DataW.Trod enc Try.prog W' 0 (fun b => decide (b < W.heap.size)) true 29 (.agg w1) d1 p1 :=
    WideElems.Trod_stays Try.laidOut (by kernel_rfl) (of_decide_eq_true (by kernel_rfl)) h1 (fun x hx => hs.sameAt (hlt x (by simp [hx]))) (fun x hx => by simpa using hlt x (by simp [hx]))
  refine ⟨_, rfl, _, _, _, [], p0 ++ p1, [], hW', ?_, ?_, ?_, hs.frame _, fun h => by cases h⟩
  · exact trodAll_mk1 (shut_bool Try.underlying4 true)
  · exact trodAll_mk2 r0 r1
  · exact rfl
theorem scriptAll_holds : Rows.ScriptAllSaid :=
  OpenClaim.holds_of_wide 3 Try.f3 rfl rfl rfl rfl rfl rfl rfl ⟨rfl, rfl, rfl, rfl, rfl⟩ rfl rfl rfl rfl rfl (by kernel_rfl) Try.func3 (by kernel_rfl)
    (of_decide_eq_true (by kernel_rfl)) (by unfold Func.isWrapper; first | (rw [if_pos (by decide +kernel)]; kernel_rfl) | (rw [if_neg (by decide +kernel)]; exact ⟨rfl, rfl⟩))
    (fun os started H enc _ => scriptAll_lifted os started H enc)
end Go.Proofs.Ytcbppmocgiamiaa
