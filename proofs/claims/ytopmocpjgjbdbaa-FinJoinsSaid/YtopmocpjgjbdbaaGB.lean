/- Arguments read -/
import Derived.Test.YtopmocpjgjbdbaaE0
import Derived.Test.YtopmocpjgjbdbaaF10
import Derived.Test.YtopmocpjgjbdbaaFB
import Derived.Test.YtopmocpjgjbdbaaPvJ
namespace Go.Proofs.Ytopmocpjgjbdbaa
open Go.Pv
open Go.ChangeShapes Go.WideShapes Go.ChangeAt Go.RowKit
/-- Readers of this program's types. -/
theorem rdOp (W : World) : Rd Try.prog W 32 eF FW := by
  refine rdStruct Try.underlying32 (.cons (rdI Try.underlying5) rfl Try.cells5 (.cons (rdI Try.underlying3) rfl Try.cells3 (.cons (rdI Try.underlying3) rfl Try.cells3 .nil))) (by kernel_rfl) ?_
  rintro ds ⟨a0, r0, rfl, w0, a1, r1, rfl, w1, a2, r2, rfl, w2, rfl⟩
  simp [Lit.wf, IntKind.min, IntKind.max, IntKind.signed, IntKind.bits] at w0 w1 w2
  exact ⟨⟨a0, a1, a2⟩, rfl, ⟨by simpa using w0, by simpa using w1, by simpa using w2⟩⟩
theorem rdU (W : World) : Rd Try.prog W 39 eU (fun a => 0 ≤ a ∧ a ≤ 18446744073709551615) := (rdI Try.underlying39).ok (fun a h => by simpa [Lit.wf, IntKind.min, IntKind.max, IntKind.signed, IntKind.bits] using h)
theorem rdOps (W : World) : Rd Try.prog W 22 (fun xs : List FOp => [.sl 3 false (xs.map eF)]) (fun xs => xs.length ≤ maxLen ∧ ∀ x ∈ xs, FW x) := rdSl Try.underlying22 Try.cells32 (by decide) (fun _ => rfl) (rdOp W)
theorem rdUs (W : World) : Rd Try.prog W 23 (fun xs : List Int => [.sl 1 false (xs.map eU)]) (fun xs => xs.length ≤ maxLen ∧ ∀ x ∈ xs, 0 ≤ x ∧ x ≤ 18446744073709551615) := rdSl Try.underlying23 Try.cells39 (by decide) (fun _ => rfl) (rdU W)
theorem Try.cells22 : Try.prog.cellsOf 22 = 1 := by kernel_rfl
theorem rdPs (W : World) : Rd Try.prog W 25 (fun xs : List (List FOp) => [.sl 1 false (xs.map eL)]) (fun xs => xs.length ≤ maxLen ∧ ∀ x ∈ xs, x.length ≤ maxLen ∧ ∀ o ∈ x, FW o) := rdSl Try.underlying25 Try.cells22 (by decide) (fun _ => rfl) (rdOps W)
theorem two_of {α : Type} {l : List α} (h : l.length = 2) : ∃ a b, l = [a, b] := by
  match l, h with
  | [a, b], _ => exact ⟨a, b, rfl⟩
def eB (x : Int) : List D := [.v (.int .u8 x)]
theorem rdB2 (W : World) : Rd Try.prog W 38 (fun xs : List Int => (xs.map eB).flatten) (fun xs => xs.length = 2 ∧ ∀ x ∈ xs, 0 ≤ x ∧ x ≤ 255) := rdArr Try.underlying38 Try.cells5 (by kernel_rfl) ((rdI Try.underlying5).ok (fun a h => by simpa [Lit.wf, IntKind.min, IntKind.max, IntKind.signed, IntKind.bits] using h))
theorem rdI2 (W : World) : Rd Try.prog W 43 (fun xs : List Int => (xs.map eI).flatten) (fun xs => xs.length = 2 ∧ ∀ x ∈ xs, -9223372036854775808 ≤ x ∧ x ≤ 9223372036854775807) := rdArr Try.underlying43 Try.cells3 (by kernel_rfl) ((rdI Try.underlying3).ok (fun a h => by simpa [Lit.wf, IntKind.min, IntKind.max, IntKind.signed, IntKind.bits] using h))
end Go.Proofs.Ytopmocpjgjbdbaa
