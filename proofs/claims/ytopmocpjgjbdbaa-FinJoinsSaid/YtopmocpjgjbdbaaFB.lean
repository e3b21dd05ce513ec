/- From the law's walk to the given statement: FinParts. -/
import Derived.Test.YtopmocpjgjbdbaaF6
import Derived.Test.YtopmocpjgjbdbaaPvR
import Derived.ProofKit
namespace Go.Proofs.Ytopmocpjgjbdbaa
open Go.Pv Go.ChangeShapes Go.WideShapes Go.ChangeAt Go.RowKit
theorem Try.own : ownKnob Try.prog.godebug = none := by kernel_rfl
theorem Try.laidOut : laidOutB Try.prog = true := by kernel_rfl
structure FW (o : FOp) : Prop where
  op : 0 ≤ o.op ∧ o.op ≤ 255
  a : -9223372036854775808 ≤ o.a ∧ o.a ≤ 9223372036854775807
  b : -9223372036854775808 ≤ o.b ∧ o.b ≤ 9223372036854775807
section
variable {H : Type} {enc : TypeId × Value → H} {W : World}
theorem Try.cells32 : Try.prog.cellsOf 32 = 3 := by kernel_rfl
theorem Try.cells39 : Try.prog.cellsOf 39 = 1 := by kernel_rfl
theorem Try.cells5 : Try.prog.cellsOf 5 = 1 := by kernel_rfl
theorem Try.cells3 : Try.prog.cellsOf 3 = 1 := by kernel_rfl
theorem cells3 {l : List Value} (h : l.length = 3) : ∃ x y z, l = [x, y, z] := by
  match l, h with
  | [x, y, z], _ => exact ⟨x, y, z, rfl⟩
theorem rd_op (n : Nat) (cs : List Value) (x : DataW H × List MemPlace) (h : DataW.trod enc Try.prog W 0 (fun _ => true) true n 32 cs = some x) : ∃ o : FOp, VsD (memOf W) (eF o) cs ∧ FW o := by
  obtain ⟨xs, m, _, _, hl, hxl, hx⟩ := DataW.trod_struct Try.underlying32 h
  rw [Try.cells32] at hl
  obtain ⟨c0, c1, c2, rfl⟩ := cells3 hl
  have hxs := hx
  have h0 : DataW.trod enc Try.prog W 0 (fun _ => true) true m 5 (([c0, c1, c2].drop 0).take (Try.prog.cellsOf 5)) = xs[0]? := hx 0 _ rfl
  have h1 : DataW.trod enc Try.prog W 0 (fun _ => true) true m 3 (([c0, c1, c2].drop 1).take (Try.prog.cellsOf 3)) = xs[1]? := hx 1 _ rfl
  have h2 : DataW.trod enc Try.prog W 0 (fun _ => true) true m 3 (([c0, c1, c2].drop 2).take (Try.prog.cellsOf 3)) = xs[2]? := hx 2 _ rfl
  rw [Try.cells5] at h0
  rw [Try.cells3] at h1 h2
  have l3 : xs.length = 3 := by rw [hxl]; rfl
  have g0 : xs[0]? = some xs[0] := List.getElem?_eq_getElem (by omega)
  have g1 : xs[1]? = some xs[1] := List.getElem?_eq_getElem (by omega)
  have g2 : xs[2]? = some xs[2] := List.getElem?_eq_getElem (by omega)
  rw [g0] at h0
  rw [g1] at h1
  rw [g2] at h2
  obtain ⟨a0, e0, _, w0⟩ := DataW.trod_int Try.underlying5 h0
  obtain ⟨a1, e1, _, w1⟩ := DataW.trod_int Try.underlying3 h1
  obtain ⟨a2, e2, _, w2⟩ := DataW.trod_int Try.underlying3 h2
  simp at e0 e1 e2
  subst e0 e1 e2
  refine ⟨⟨a0, a1, a2⟩, ⟨rfl, fun j c x k1 k2 => ?_⟩, ?_⟩
  · match j with
    | 0 => simp [eF] at k1 k2; subst k1 k2; exact ⟨.v _ rfl, rfl⟩
    | 1 => simp [eF] at k1 k2; subst k1 k2; exact ⟨.v _ rfl, rfl⟩
    | 2 => simp [eF] at k1 k2; subst k1 k2; exact ⟨.v _ rfl, rfl⟩
    | j + 3 => simp [eF] at k1
  · simp [Lit.wf, IntKind.min, IntKind.max, IntKind.signed, IntKind.bits] at w0 w1 w2
    exact ⟨by simpa using w0, by simpa using w1, by simpa using w2⟩
theorem rd_u64 (n : Nat) (cs : List Value) (x : DataW H × List MemPlace) (h : DataW.trod enc Try.prog W 0 (fun _ => true) true n 39 cs = some x) : ∃ a : Int, VsD (memOf W) (eU a) cs ∧ (0 ≤ a ∧ a ≤ 18446744073709551615) := by
  obtain ⟨a, h1, h2⟩ := rd_int Try.underlying39 n cs x h
  refine ⟨a, h1, ?_⟩
  simp [Lit.wf, IntKind.min, IntKind.max, IntKind.signed, IntKind.bits] at h2
  exact h2
end
end Go.Proofs.Ytopmocpjgjbdbaa
