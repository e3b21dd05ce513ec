/- Script: arguments read -/
import Derived.Test.YtcbppmocgiamiaaE0
import Derived.Test.YtcbppmocgiamiaaSR
import Derived.Test.YtcbppmocgiamiaaPvJ
import Derived.ProofKit
namespace Go.Proofs.Ytcbppmocgiamiaa
open Go.Pv
open Go.ChangeShapes Go.WideShapes Go.ChangeAt Go.RowKit
theorem Try.own : ownKnob Try.prog.godebug = none := by kernel_rfl
theorem Try.laidOut : laidOutB Try.prog = true := by kernel_rfl
theorem Try.cells5 : Try.prog.cellsOf 5 = 1 := by kernel_rfl
theorem Try.cells3 : Try.prog.cellsOf 3 = 1 := by kernel_rfl
theorem Try.cells40 : Try.prog.cellsOf 40 = 7 := by kernel_rfl
theorem Try.cells56 : Try.prog.cellsOf 56 = 3 := by kernel_rfl
theorem Try.cells24 : Try.prog.cellsOf 24 = 4 := by kernel_rfl
theorem Try.cells25 : Try.prog.cellsOf 25 = 1 := by kernel_rfl
theorem Try.cells26 : Try.prog.cellsOf 26 = 1 := by kernel_rfl
theorem Try.cells27 : Try.prog.cellsOf 27 = 1 := by kernel_rfl
theorem Try.cells38 : Try.prog.cellsOf 38 = 1 := by kernel_rfl
theorem Try.cells44 : Try.prog.cellsOf 44 = 1 := by kernel_rfl
theorem rdU8 (W : World) : Rd Try.prog W 5 eByte (fun a => 0 ≤ a ∧ a ≤ 255) := (rdI Try.underlying5).ok (fun a h => by simpa [Lit.wf, IntKind.min, IntKind.max, IntKind.signed, IntKind.bits] using h)
theorem rdInt (W : World) : Rd Try.prog W 3 eI (fun a => -9223372036854775808 ≤ a ∧ a ≤ 9223372036854775807) := (rdI Try.underlying3).ok (fun a h => by simpa [Lit.wf, IntKind.min, IntKind.max, IntKind.signed, IntKind.bits] using h)
theorem rdB (W : World) : Rd Try.prog W 22 (fun xs : List Int => [.sl 1 false (xs.map eByte)]) (fun xs => xs.length ≤ maxLen ∧ ∀ x ∈ xs, 0 ≤ x ∧ x ≤ 255) := rdSl Try.underlying22 Try.cells5 (by decide) (fun _ => rfl) (rdU8 W)
theorem rdPk (W : World) : Rd Try.prog W 27 (fun xs : List Int => [.sl 1 false (xs.map eI)]) (fun xs => xs.length ≤ maxLen ∧ ∀ x ∈ xs, -9223372036854775808 ≤ x ∧ x ≤ 9223372036854775807) := rdSl Try.underlying27 Try.cells3 (by decide) (fun _ => rfl) (rdInt W)
theorem rdOp (W : World) : Rd Try.prog W 56 eF OW := by
  refine rdStruct Try.underlying56 (.cons (rdI Try.underlying5) rfl Try.cells5 (.cons (rdI Try.underlying3) rfl Try.cells3 (.cons (rdI Try.underlying3) rfl Try.cells3 .nil))) (by kernel_rfl) ?_
  rintro ds ⟨a0, r0, rfl, w0, a1, r1, rfl, w1, a2, r2, rfl, w2, rfl⟩
  simp [Lit.wf, IntKind.min, IntKind.max, IntKind.signed, IntKind.bits] at w0 w1 w2
  exact ⟨⟨a0, a1, a2⟩, rfl, ⟨by simpa using w0, by simpa using w1, by simpa using w2⟩⟩
theorem rdCl (W : World) : Rd Try.prog W 40 eC CW := by
  refine rdStruct Try.underlying40 (.cons (rdI Try.underlying5) rfl Try.cells5 (.cons (rdI Try.underlying5) rfl Try.cells5 (.cons (rdI Try.underlying5) rfl Try.cells5 (.cons (rdI Try.underlying5) rfl Try.cells5 (.cons (rdI Try.underlying3) rfl Try.cells3 (.cons (rdI Try.underlying3) rfl Try.cells3 (.cons (rdI Try.underlying3) rfl Try.cells3 .nil))))))) (by kernel_rfl) ?_
  rintro ds ⟨a0, r0, rfl, w0, a1, r1, rfl, w1, a2, r2, rfl, w2, a3, r3, rfl, w3, a4, r4, rfl, w4, a5, r5, rfl, w5, a6, r6, rfl, w6, rfl⟩
  simp [Lit.wf, IntKind.min, IntKind.max, IntKind.signed, IntKind.bits] at w0 w1 w2 w3 w4 w5 w6
  exact ⟨⟨a0, a1, a2, a3, a4, a5, a6⟩, rfl, ⟨by simpa using w0, by simpa using w1, by simpa using w2, by simpa using w3, by simpa using w4, by simpa using w5, by simpa using w6⟩⟩
theorem rdOps (W : World) : Rd Try.prog W 44 (fun xs : List FOp => [.sl 3 false (xs.map eF)]) (fun xs => xs.length ≤ maxLen ∧ ∀ x ∈ xs, OW x) := rdSl Try.underlying44 Try.cells56 (by decide) (fun _ => rfl) (rdOp W)
theorem rdCls (W : World) : Rd Try.prog W 38 (fun xs : List Call => [.sl 7 false (xs.map eC)]) (fun xs => xs.length ≤ maxLen ∧ ∀ x ∈ xs, CW x) := rdSl Try.underlying38 Try.cells40 (by decide) (fun _ => rfl) (rdCl W)
theorem rdFins (W : World) : Rd Try.prog W 25 (fun xs : List (List FOp) => [.sl 1 false (xs.map eFs)]) (fun xs => xs.length ≤ maxLen ∧ ∀ l ∈ xs, l.length ≤ maxLen ∧ ∀ x ∈ l, OW x) := rdSl Try.underlying25 Try.cells44 (by decide) (fun _ => rfl) (rdOps W)
theorem rdProgs (W : World) : Rd Try.prog W 26 (fun xs : List (List Call) => [.sl 1 false (xs.map eCs)]) (fun xs => xs.length ≤ maxLen ∧ ∀ l ∈ xs, l.length ≤ maxLen ∧ ∀ x ∈ l, CW x) := rdSl Try.underlying26 Try.cells38 (by decide) (fun _ => rfl) (rdCls W)
theorem rdPlan (W : World) : Rd Try.prog W 24 (fun p : Int × Int × Int × Int => [.v (.int .i64 p.1), .v (.int .i64 p.2.1), .v (.int .i64 p.2.2.1), .v (.int .i64 p.2.2.2)]) (fun p => IW p.1 ∧ IW p.2.1 ∧ IW p.2.2.1 ∧ IW p.2.2.2) := by
  refine rdStruct Try.underlying24 (.cons (rdI Try.underlying3) rfl Try.cells3 (.cons (rdI Try.underlying3) rfl Try.cells3 (.cons (rdI Try.underlying3) rfl Try.cells3 (.cons (rdI Try.underlying3) rfl Try.cells3 .nil)))) (by kernel_rfl) ?_
  rintro ds ⟨a0, r0, rfl, w0, a1, r1, rfl, w1, a2, r2, rfl, w2, a3, r3, rfl, w3, rfl⟩
  simp [Lit.wf, IntKind.min, IntKind.max, IntKind.signed, IntKind.bits] at w0 w1 w2 w3
  exact ⟨⟨a0, a1, a2, a3⟩, rfl, by simpa [IW] using w0, by simpa [IW] using w1, by simpa [IW] using w2, by simpa [IW] using w3⟩
/-- What is known of a script that came in. -/
structure SIn (s : Scr) : Prop where
  sc : IW s.sc
  th : IW s.th
  im : IW s.im
  hp : IW s.hp
  f : s.fins.length ≤ maxLen ∧ ∀ l ∈ s.fins, l.length ≤ maxLen ∧ ∀ x ∈ l, OW x
  g : s.progs.length ≤ maxLen ∧ ∀ l ∈ s.progs, l.length ≤ maxLen ∧ ∀ x ∈ l, CW x
  p : s.picks.length ≤ maxLen ∧ ∀ n ∈ s.picks, IW n
theorem SIn.o' {s : Scr} (h : SIn s) (i j : Nat) : OW ((s.fins.getD i default).getD j default) := by
  refine getD_or (p := OW) ?_ (by simp [OW, default]) j
  exact getD_or (p := fun l => ∀ x ∈ l, OW x) (fun l hl => (h.f.2 l hl).2) (by intro x hx; cases hx) i
theorem SIn.c' {s : Scr} (h : SIn s) (i j : Nat) : CW ((s.progs.getD i default).getD j default) := by
  refine getD_or (p := CW) ?_ (by simp [CW, default]) j
  exact getD_or (p := fun l => ∀ x ∈ l, CW x) (fun l hl => (h.g.2 l hl).2) (by intro x hx; cases hx) i
theorem rdScr (W : World) : Rd Try.prog W 29 (fun s : Scr => [.v (.int .i64 s.sc), .v (.int .i64 s.th), .v (.int .i64 s.im), .v (.int .i64 s.hp), .sl 1 false (s.fins.map eFs), .sl 1 false (s.progs.map eCs), .sl 1 false (s.picks.map eI)]) SIn := by
  refine rdStruct Try.underlying29 (.cons (rdPlan W) rfl Try.cells24 (.cons (rdFins W) rfl Try.cells25 (.cons (rdProgs W) rfl Try.cells26 (.cons (rdPk W) rfl Try.cells27 .nil)))) (by kernel_rfl) ?_
  rintro ds ⟨a0, r0, rfl, w0, a1, r1, rfl, w1, a2, r2, rfl, w2, a3, r3, rfl, w3, rfl⟩
  exact ⟨⟨a0.1, a0.2.1, a0.2.2.1, a0.2.2.2, a1, a2, a3⟩, rfl, ⟨w0.1, w0.2.1, w0.2.2.1, w0.2.2.2, w1, w2, w3⟩⟩
end Go.Proofs.Ytcbppmocgiamiaa
