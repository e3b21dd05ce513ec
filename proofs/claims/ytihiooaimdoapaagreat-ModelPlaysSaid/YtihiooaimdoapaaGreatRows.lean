/-
  No cell of these rows narrows 'for every input' (looked for: loops, veiled, ifaces, maps, wideKeys, modest, calm, conditions, laid).
  DERIVED. THE GIVEN ROWS OF THIS SEAT. 8 by the template 'for every input the law returns true; each argument reads behind the call as it read before'; 0 by the template 'total and deterministic' (their statements: YtihiooaimdoapaaGreatTotals.lean).
  GIVEN WITH THE SEED: the statements are not yours to turn. If you find one false, say at which input.
  Laid BY PROGRAM, IN A SANDBOX (cutbox-rows.mjs): the forced cells as the released guide's own fill.sh prints them over the translation 3fa56ac055fbbac7… (all of the seat's roots in one cut). By AI agents, Wed Nov 11 2026. No macro, syntax, notation, axiom, sorry.
-/
import Derived.Test.YtihiooaimdoapaaGreatChecked
import GoSem.Claim
import GoSem.ClaimJoined
import GoSem.ClaimMapViews
import Derived.JoinedTies
import Derived.KernelRfl
namespace Go.Proofs.YtihiooaimdoapaaGreat
/- THE CELL 'sum', in the pinned program and in every row, IS THE sha256 OF THE DUMP (.gsa) THAT YtihiooaimdoapaaGreatProg.lean LOADS. Nothing in Lean hashes anything: it is a label: what it is worth is what the hold of that sum in a sandbox is worth. -/
noncomputable def Tryz.pinned : Pinned := { name := "ytihiooaimdoapaagreat", sum := "3fa56ac055fbbac7fae752421cf03f121b3932cba8c445b43102afbd6ed46aca", checked := Tryz.checked }
namespace Rows
def none {H : Type} : Left H := { results := [], args := [] }

/-- 'penfoldlaw12.ModelLeaves': WHATEVER THE INPUT: true; the input reads as it did. -/
def modelLeavesSpec : ChangeSpec := { name := "modelLeaves", fn := fun _ => fun
  | [d1, d2, d3] => { results := [.lit (.bool true)], args := [d1, d2, d3] }
  | _ => none }
def modelLeavesRow : OpenClaim := { program := "ytihiooaimdoapaagreat", sum := "3fa56ac055fbbac7fae752421cf03f121b3932cba8c445b43102afbd6ed46aca", func := "penfold/penfoldlaw12.ModelLeaves", spec := "modelLeaves", unfollowed := true, recurses := true, plainKeys := false, apart := false }
def ModelLeavesSaid : Prop := modelLeavesRow.holds Tryz.pinned (OpenSpec.ofChange modelLeavesSpec)

/-- ITS FALSE NEIGHBOUR: 'it returns false'. Refute it at one input. -/
def modelLeavesWrong : ChangeSpec := { name := "modelLeaves", fn := fun _ => fun
  | [d1, d2, d3] => { results := [.lit (.bool false)], args := [d1, d2, d3] }
  | _ => none }
def ModelLeavesWrongFalsely : Prop := modelLeavesRow.holds Tryz.pinned (OpenSpec.ofChange modelLeavesWrong)

/-- 'penfoldlaw12.ModelCounts': WHATEVER THE INPUT: true; the input reads as it did. -/
def modelCountsSpec : ChangeSpec := { name := "modelCounts", fn := fun _ => fun
  | [d1, d2, d3] => { results := [.lit (.bool true)], args := [d1, d2, d3] }
  | _ => none }
def modelCountsRow : OpenClaim := { program := "ytihiooaimdoapaagreat", sum := "3fa56ac055fbbac7fae752421cf03f121b3932cba8c445b43102afbd6ed46aca", func := "penfold/penfoldlaw12.ModelCounts", spec := "modelCounts", unfollowed := true, recurses := true, plainKeys := false, apart := false }
def ModelCountsSaid : Prop := modelCountsRow.holds Tryz.pinned (OpenSpec.ofChange modelCountsSpec)

/-- ITS FALSE NEIGHBOUR: 'it returns false'. Refute it at one input. -/
def modelCountsWrong : ChangeSpec := { name := "modelCounts", fn := fun _ => fun
  | [d1, d2, d3] => { results := [.lit (.bool false)], args := [d1, d2, d3] }
  | _ => none }
def ModelCountsWrongFalsely : Prop := modelCountsRow.holds Tryz.pinned (OpenSpec.ofChange modelCountsWrong)

/-- 'penfoldlaw12.ModelUnder': WHATEVER THE INPUT: true; the input reads as it did. -/
def modelUnderSpec : ChangeSpec := { name := "modelUnder", fn := fun _ => fun
  | [d1, d2, d3] => { results := [.lit (.bool true)], args := [d1, d2, d3] }
  | _ => none }
def modelUnderRow : OpenClaim := { program := "ytihiooaimdoapaagreat", sum := "3fa56ac055fbbac7fae752421cf03f121b3932cba8c445b43102afbd6ed46aca", func := "penfold/penfoldlaw12.ModelUnder", spec := "modelUnder", unfollowed := true, recurses := true, plainKeys := false, apart := false }
def ModelUnderSaid : Prop := modelUnderRow.holds Tryz.pinned (OpenSpec.ofChange modelUnderSpec)

/-- ITS FALSE NEIGHBOUR: 'it returns false'. Refute it at one input. -/
def modelUnderWrong : ChangeSpec := { name := "modelUnder", fn := fun _ => fun
  | [d1, d2, d3] => { results := [.lit (.bool false)], args := [d1, d2, d3] }
  | _ => none }
def ModelUnderWrongFalsely : Prop := modelUnderRow.holds Tryz.pinned (OpenSpec.ofChange modelUnderWrong)

/-- 'penfoldlaw12.ModelRefuses': WHATEVER THE INPUT: true; the input reads as it did. -/
def modelRefusesSpec : ChangeSpec := { name := "modelRefuses", fn := fun _ => fun
  | [d1, d2] => { results := [.lit (.bool true)], args := [d1, d2] }
  | _ => none }
def modelRefusesRow : OpenClaim := { program := "ytihiooaimdoapaagreat", sum := "3fa56ac055fbbac7fae752421cf03f121b3932cba8c445b43102afbd6ed46aca", func := "penfold/penfoldlaw12.ModelRefuses", spec := "modelRefuses", unfollowed := true, recurses := true, plainKeys := false, apart := false }
def ModelRefusesSaid : Prop := modelRefusesRow.holds Tryz.pinned (OpenSpec.ofChange modelRefusesSpec)

/-- ITS FALSE NEIGHBOUR: 'it returns false'. Refute it at one input. -/
def modelRefusesWrong : ChangeSpec := { name := "modelRefuses", fn := fun _ => fun
  | [d1, d2] => { results := [.lit (.bool false)], args := [d1, d2] }
  | _ => none }
def ModelRefusesWrongFalsely : Prop := modelRefusesRow.holds Tryz.pinned (OpenSpec.ofChange modelRefusesWrong)

/-- 'penfoldlaw12.ModelOwn': WHATEVER THE INPUT: true; the input reads as it did. -/
def modelOwnSpec : ChangeSpec := { name := "modelOwn", fn := fun _ => fun
  | [d1, d2] => { results := [.lit (.bool true)], args := [d1, d2] }
  | _ => none }
def modelOwnRow : OpenClaim := { program := "ytihiooaimdoapaagreat", sum := "3fa56ac055fbbac7fae752421cf03f121b3932cba8c445b43102afbd6ed46aca", func := "penfold/penfoldlaw12.ModelOwn", spec := "modelOwn", unfollowed := true, recurses := true, plainKeys := false, apart := false }
def ModelOwnSaid : Prop := modelOwnRow.holds Tryz.pinned (OpenSpec.ofChange modelOwnSpec)

/-- ITS FALSE NEIGHBOUR: 'it returns false'. Refute it at one input. -/
def modelOwnWrong : ChangeSpec := { name := "modelOwn", fn := fun _ => fun
  | [d1, d2] => { results := [.lit (.bool false)], args := [d1, d2] }
  | _ => none }
def ModelOwnWrongFalsely : Prop := modelOwnRow.holds Tryz.pinned (OpenSpec.ofChange modelOwnWrong)

/-- 'penfoldlaw12.ModelHeld': WHATEVER THE INPUT: true; the input reads as it did. -/
def modelHeldSpec : ChangeSpec := { name := "modelHeld", fn := fun _ => fun
  | [d1, d2, d3] => { results := [.lit (.bool true)], args := [d1, d2, d3] }
  | _ => none }
def modelHeldRow : OpenClaim := { program := "ytihiooaimdoapaagreat", sum := "3fa56ac055fbbac7fae752421cf03f121b3932cba8c445b43102afbd6ed46aca", func := "penfold/penfoldlaw12.ModelHeld", spec := "modelHeld", unfollowed := true, recurses := true, plainKeys := false, apart := false }
def ModelHeldSaid : Prop := modelHeldRow.holds Tryz.pinned (OpenSpec.ofChange modelHeldSpec)

/-- ITS FALSE NEIGHBOUR: 'it returns false'. Refute it at one input. -/
def modelHeldWrong : ChangeSpec := { name := "modelHeld", fn := fun _ => fun
  | [d1, d2, d3] => { results := [.lit (.bool false)], args := [d1, d2, d3] }
  | _ => none }
def ModelHeldWrongFalsely : Prop := modelHeldRow.holds Tryz.pinned (OpenSpec.ofChange modelHeldWrong)

/-- 'penfoldlaw12.ModelFresh': WHATEVER THE INPUT: true; the input reads as it did. -/
def modelFreshSpec : ChangeSpec := { name := "modelFresh", fn := fun _ => fun
  | [d1, d2] => { results := [.lit (.bool true)], args := [d1, d2] }
  | _ => none }
def modelFreshRow : OpenClaim := { program := "ytihiooaimdoapaagreat", sum := "3fa56ac055fbbac7fae752421cf03f121b3932cba8c445b43102afbd6ed46aca", func := "penfold/penfoldlaw12.ModelFresh", spec := "modelFresh", unfollowed := true, recurses := true, plainKeys := false, apart := false }
def ModelFreshSaid : Prop := modelFreshRow.holds Tryz.pinned (OpenSpec.ofChange modelFreshSpec)

/-- ITS FALSE NEIGHBOUR: 'it returns false'. Refute it at one input. -/
def modelFreshWrong : ChangeSpec := { name := "modelFresh", fn := fun _ => fun
  | [d1, d2] => { results := [.lit (.bool false)], args := [d1, d2] }
  | _ => none }
def ModelFreshWrongFalsely : Prop := modelFreshRow.holds Tryz.pinned (OpenSpec.ofChange modelFreshWrong)

/-- 'penfoldlaw12.ModelPlays': WHATEVER THE INPUT: true; the input reads as it did. -/
def modelPlaysSpec : ChangeSpec := { name := "modelPlays", fn := fun _ => fun
  | [d1, d2, d3] => { results := [.lit (.bool true)], args := [d1, d2, d3] }
  | _ => none }
def modelPlaysRow : OpenClaim := { program := "ytihiooaimdoapaagreat", sum := "3fa56ac055fbbac7fae752421cf03f121b3932cba8c445b43102afbd6ed46aca", func := "penfold/penfoldlaw12.ModelPlays", spec := "modelPlays", unfollowed := true, recurses := true, plainKeys := false, apart := false }
def ModelPlaysSaid : Prop := modelPlaysRow.holds Tryz.pinned (OpenSpec.ofChange modelPlaysSpec)

/-- ITS FALSE NEIGHBOUR: 'it returns false'. Refute it at one input. -/
def modelPlaysWrong : ChangeSpec := { name := "modelPlays", fn := fun _ => fun
  | [d1, d2, d3] => { results := [.lit (.bool false)], args := [d1, d2, d3] }
  | _ => none }
def ModelPlaysWrongFalsely : Prop := modelPlaysRow.holds Tryz.pinned (OpenSpec.ofChange modelPlaysWrong)

/- THE SECOND FORM. 'bulk': how many values and letters a reading holds, each counted each time it is reached (what is shared counts as often as it is met; a slice's spare places count too). A statement '..UptoSaid' is the law's where the arguments, and the package variables that the reading takes, are together of bulk at most 1048576: NARROWER than '..Said'. Prove '..Said' where nothing that the law and all that it calls make is longer than what came in: it says more and counts as full. Else prove '..UptoSaid'. A law counts once. -/
mutual
def uptoBulk {H : Type} : DataW H → Nat
  | .lit (.string bytes) => bytes.length + 1
  | .lit _ => 1
  | .nil => 1
  | .ptr d => uptoBulk d + 1
  | .slice elems spare => uptoBulkAll elems + uptoBulkAll spare + 1
  | .agg parts => uptoBulkAll parts + 1
  | .iface _ d => uptoBulk d + 1
  | .map entries => uptoBulkEntries entries + 1
  | .held _ => 1
def uptoBulkAll {H : Type} : List (DataW H) → Nat
  | [] => 0
  | d :: r => uptoBulk d + uptoBulkAll r
def uptoBulkEntries {H : Type} : List (Lit × DataW H) → Nat
  | [] => 0
  | x :: r => uptoBulkEntry x + uptoBulkEntries r
def uptoBulkEntry {H : Type} : Lit × DataW H → Nat
  | (.string bytes, d) => bytes.length + uptoBulk d + 1
  | (_, d) => uptoBulk d + 1
 end
def uptoSmall : (H : Type) → List (DataW H) → Bool := fun _ ds => decide (uptoBulkAll ds ≤ 1048576)
def OpenSpec.upto (s : _root_.Go.ChangeSpec) : _root_.Go.OpenSpec := { _root_.Go.OpenSpec.ofChange s with cond := some uptoSmall }

/-- 'penfoldlaw12.ModelLeaves', WHERE WHAT IT READS IS OF BULK AT MOST 1048576: true; the input reads as it did. -/
def modelLeavesUptoRow : OpenClaim := { program := "ytihiooaimdoapaagreat", sum := "3fa56ac055fbbac7fae752421cf03f121b3932cba8c445b43102afbd6ed46aca", func := "penfold/penfoldlaw12.ModelLeaves", spec := "modelLeaves", unfollowed := true, recurses := true, plainKeys := false, apart := false, narrowed := true }
def ModelLeavesUptoSaid : Prop := modelLeavesUptoRow.holds Tryz.pinned (OpenSpec.upto modelLeavesSpec)

/-- 'penfoldlaw12.ModelCounts', WHERE WHAT IT READS IS OF BULK AT MOST 1048576: true; the input reads as it did. -/
def modelCountsUptoRow : OpenClaim := { program := "ytihiooaimdoapaagreat", sum := "3fa56ac055fbbac7fae752421cf03f121b3932cba8c445b43102afbd6ed46aca", func := "penfold/penfoldlaw12.ModelCounts", spec := "modelCounts", unfollowed := true, recurses := true, plainKeys := false, apart := false, narrowed := true }
def ModelCountsUptoSaid : Prop := modelCountsUptoRow.holds Tryz.pinned (OpenSpec.upto modelCountsSpec)

/-- 'penfoldlaw12.ModelUnder', WHERE WHAT IT READS IS OF BULK AT MOST 1048576: true; the input reads as it did. -/
def modelUnderUptoRow : OpenClaim := { program := "ytihiooaimdoapaagreat", sum := "3fa56ac055fbbac7fae752421cf03f121b3932cba8c445b43102afbd6ed46aca", func := "penfold/penfoldlaw12.ModelUnder", spec := "modelUnder", unfollowed := true, recurses := true, plainKeys := false, apart := false, narrowed := true }
def ModelUnderUptoSaid : Prop := modelUnderUptoRow.holds Tryz.pinned (OpenSpec.upto modelUnderSpec)

/-- 'penfoldlaw12.ModelRefuses', WHERE WHAT IT READS IS OF BULK AT MOST 1048576: true; the input reads as it did. -/
def modelRefusesUptoRow : OpenClaim := { program := "ytihiooaimdoapaagreat", sum := "3fa56ac055fbbac7fae752421cf03f121b3932cba8c445b43102afbd6ed46aca", func := "penfold/penfoldlaw12.ModelRefuses", spec := "modelRefuses", unfollowed := true, recurses := true, plainKeys := false, apart := false, narrowed := true }
def ModelRefusesUptoSaid : Prop := modelRefusesUptoRow.holds Tryz.pinned (OpenSpec.upto modelRefusesSpec)

/-- 'penfoldlaw12.ModelOwn', WHERE WHAT IT READS IS OF BULK AT MOST 1048576: true; the input reads as it did. -/
def modelOwnUptoRow : OpenClaim := { program := "ytihiooaimdoapaagreat", sum := "3fa56ac055fbbac7fae752421cf03f121b3932cba8c445b43102afbd6ed46aca", func := "penfold/penfoldlaw12.ModelOwn", spec := "modelOwn", unfollowed := true, recurses := true, plainKeys := false, apart := false, narrowed := true }
def ModelOwnUptoSaid : Prop := modelOwnUptoRow.holds Tryz.pinned (OpenSpec.upto modelOwnSpec)

/-- 'penfoldlaw12.ModelHeld', WHERE WHAT IT READS IS OF BULK AT MOST 1048576: true; the input reads as it did. -/
def modelHeldUptoRow : OpenClaim := { program := "ytihiooaimdoapaagreat", sum := "3fa56ac055fbbac7fae752421cf03f121b3932cba8c445b43102afbd6ed46aca", func := "penfold/penfoldlaw12.ModelHeld", spec := "modelHeld", unfollowed := true, recurses := true, plainKeys := false, apart := false, narrowed := true }
def ModelHeldUptoSaid : Prop := modelHeldUptoRow.holds Tryz.pinned (OpenSpec.upto modelHeldSpec)

/-- 'penfoldlaw12.ModelFresh', WHERE WHAT IT READS IS OF BULK AT MOST 1048576: true; the input reads as it did. -/
def modelFreshUptoRow : OpenClaim := { program := "ytihiooaimdoapaagreat", sum := "3fa56ac055fbbac7fae752421cf03f121b3932cba8c445b43102afbd6ed46aca", func := "penfold/penfoldlaw12.ModelFresh", spec := "modelFresh", unfollowed := true, recurses := true, plainKeys := false, apart := false, narrowed := true }
def ModelFreshUptoSaid : Prop := modelFreshUptoRow.holds Tryz.pinned (OpenSpec.upto modelFreshSpec)

/-- 'penfoldlaw12.ModelPlays', WHERE WHAT IT READS IS OF BULK AT MOST 1048576: true; the input reads as it did. -/
def modelPlaysUptoRow : OpenClaim := { program := "ytihiooaimdoapaagreat", sum := "3fa56ac055fbbac7fae752421cf03f121b3932cba8c445b43102afbd6ed46aca", func := "penfold/penfoldlaw12.ModelPlays", spec := "modelPlays", unfollowed := true, recurses := true, plainKeys := false, apart := false, narrowed := true }
def ModelPlaysUptoSaid : Prop := modelPlaysUptoRow.holds Tryz.pinned (OpenSpec.upto modelPlaysSpec)

end Rows
end Go.Proofs.YtihiooaimdoapaaGreat
