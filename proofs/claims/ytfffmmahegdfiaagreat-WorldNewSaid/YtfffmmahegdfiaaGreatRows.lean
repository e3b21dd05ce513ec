/-
  No cell of these rows narrows 'for every input' (looked for: loops, veiled, ifaces, maps, wideKeys, modest, calm, conditions, laid).
  DERIVED. THE GIVEN ROWS OF THIS SEAT. 4 by the template 'for every input the law returns true; each argument reads behind the call as it read before'; 0 by the template 'total and deterministic' (their statements: YtfffmmahegdfiaaGreatTotals.lean).
  GIVEN WITH THE SEED: the statements are not yours to turn. If you find one false, say at which input.
  Laid BY PROGRAM, IN A SANDBOX (cutbox-rows.mjs): the forced cells as the released guide's own fill.sh prints them over the translation 987a09c470dd52f8… (all of the seat's roots in one cut). By AI agents, Wed Nov 11 2026. No macro, syntax, notation, axiom, sorry.
-/
import Derived.Test.YtfffmmahegdfiaaGreatChecked
import GoSem.Claim
import GoSem.ClaimJoined
import GoSem.ClaimMapViews
import Derived.JoinedTies
import Derived.KernelRfl
namespace Go.Proofs.YtfffmmahegdfiaaGreat
/- THE CELL 'sum', in the pinned program and in every row, IS THE sha256 OF THE DUMP (.gsa) THAT YtfffmmahegdfiaaGreatProg.lean LOADS. Nothing in Lean hashes anything: it is a label: what it is worth is what the hold of that sum in a sandbox is worth. -/
noncomputable def Tryz.pinned : Pinned := { name := "ytfffmmahegdfiaagreat", sum := "987a09c470dd52f8acccb2df449813587dd0ad18ffde97016b0c4e1111c216e7", checked := Tryz.checked }
namespace Rows
def none {H : Type} : Left H := { results := [], args := [] }

/-- 'penfoldlaw19.WorldSteps': WHATEVER THE INPUT: true; the input reads as it did. -/
def worldStepsSpec : ChangeSpec := { name := "worldSteps", fn := fun _ => fun
  | [d1, d2] => { results := [.lit (.bool true)], args := [d1, d2] }
  | _ => none }
def worldStepsRow : OpenClaim := { program := "ytfffmmahegdfiaagreat", sum := "987a09c470dd52f8acccb2df449813587dd0ad18ffde97016b0c4e1111c216e7", func := "penfold/penfoldlaw19.WorldSteps", spec := "worldSteps", unfollowed := true, recurses := true, apart := false }
def WorldStepsSaid : Prop := worldStepsRow.holds Tryz.pinned (OpenSpec.ofChange worldStepsSpec)

/-- ITS FALSE NEIGHBOUR: 'it returns false'. Refute it at one input. -/
def worldStepsWrong : ChangeSpec := { name := "worldSteps", fn := fun _ => fun
  | [d1, d2] => { results := [.lit (.bool false)], args := [d1, d2] }
  | _ => none }
def WorldStepsWrongFalsely : Prop := worldStepsRow.holds Tryz.pinned (OpenSpec.ofChange worldStepsWrong)

/-- 'penfoldlaw19.WorldTimes': WHATEVER THE INPUT: true; the input reads as it did. -/
def worldTimesSpec : ChangeSpec := { name := "worldTimes", fn := fun _ => fun
  | [d1, d2] => { results := [.lit (.bool true)], args := [d1, d2] }
  | _ => none }
def worldTimesRow : OpenClaim := { program := "ytfffmmahegdfiaagreat", sum := "987a09c470dd52f8acccb2df449813587dd0ad18ffde97016b0c4e1111c216e7", func := "penfold/penfoldlaw19.WorldTimes", spec := "worldTimes", unfollowed := true, recurses := true, apart := false }
def WorldTimesSaid : Prop := worldTimesRow.holds Tryz.pinned (OpenSpec.ofChange worldTimesSpec)

/-- ITS FALSE NEIGHBOUR: 'it returns false'. Refute it at one input. -/
def worldTimesWrong : ChangeSpec := { name := "worldTimes", fn := fun _ => fun
  | [d1, d2] => { results := [.lit (.bool false)], args := [d1, d2] }
  | _ => none }
def WorldTimesWrongFalsely : Prop := worldTimesRow.holds Tryz.pinned (OpenSpec.ofChange worldTimesWrong)

/-- 'penfoldlaw19.WorldOwn': WHATEVER THE INPUT: true; the input reads as it did. -/
def worldOwnSpec : ChangeSpec := { name := "worldOwn", fn := fun _ => fun
  | [d1, d2] => { results := [.lit (.bool true)], args := [d1, d2] }
  | _ => none }
def worldOwnRow : OpenClaim := { program := "ytfffmmahegdfiaagreat", sum := "987a09c470dd52f8acccb2df449813587dd0ad18ffde97016b0c4e1111c216e7", func := "penfold/penfoldlaw19.WorldOwn", spec := "worldOwn", unfollowed := true, recurses := true, apart := false }
def WorldOwnSaid : Prop := worldOwnRow.holds Tryz.pinned (OpenSpec.ofChange worldOwnSpec)

/-- ITS FALSE NEIGHBOUR: 'it returns false'. Refute it at one input. -/
def worldOwnWrong : ChangeSpec := { name := "worldOwn", fn := fun _ => fun
  | [d1, d2] => { results := [.lit (.bool false)], args := [d1, d2] }
  | _ => none }
def WorldOwnWrongFalsely : Prop := worldOwnRow.holds Tryz.pinned (OpenSpec.ofChange worldOwnWrong)

/-- 'penfoldlaw19.WorldNew': WHATEVER THE INPUT: true; the input reads as it did. -/
def worldNewSpec : ChangeSpec := { name := "worldNew", fn := fun _ => fun
  | [d1, d2] => { results := [.lit (.bool true)], args := [d1, d2] }
  | _ => none }
def worldNewRow : OpenClaim := { program := "ytfffmmahegdfiaagreat", sum := "987a09c470dd52f8acccb2df449813587dd0ad18ffde97016b0c4e1111c216e7", func := "penfold/penfoldlaw19.WorldNew", spec := "worldNew", unfollowed := true, recurses := true, apart := false }
def WorldNewSaid : Prop := worldNewRow.holds Tryz.pinned (OpenSpec.ofChange worldNewSpec)

/-- ITS FALSE NEIGHBOUR: 'it returns false'. Refute it at one input. -/
def worldNewWrong : ChangeSpec := { name := "worldNew", fn := fun _ => fun
  | [d1, d2] => { results := [.lit (.bool false)], args := [d1, d2] }
  | _ => none }
def WorldNewWrongFalsely : Prop := worldNewRow.holds Tryz.pinned (OpenSpec.ofChange worldNewWrong)

/- THE SECOND FORM. 'bulk': how many values and letters a reading holds, each counted each time it is reached (what is shared counts as often as it is met; a slice's spare places count too). A statement '..UptoSaid' is the law's where the arguments, and the package variables that the reading takes, are together of bulk at most 1048576: NARROWER than '..Said'. Prove '..Said' where nothing that the law and all that it calls make is longer than what came in: it says more and counts as full. Else prove '..UptoSaid'. A law counts once. -/
mutual
def uptoBulk {H : Type} : DataW H → Nat
  | .lit (.string bytes) => bytes.length + 1
  | .lit _ => 1
  | .nil => 1
  | .ptr d => uptoBulk d + 1
  | .slice elems spare => uptoBulkAll elems + uptoBulkAll spare + 1
  | .agg parts => uptoBulkAll parts + 1
  | .iface _ d => uptoBulk d + 1
  | .map entries => uptoBulkEntries entries + 1
  | .held _ => 1
def uptoBulkAll {H : Type} : List (DataW H) → Nat
  | [] => 0
  | d :: r => uptoBulk d + uptoBulkAll r
def uptoBulkEntries {H : Type} : List (Lit × DataW H) → Nat
  | [] => 0
  | x :: r => uptoBulkEntry x + uptoBulkEntries r
def uptoBulkEntry {H : Type} : Lit × DataW H → Nat
  | (.string bytes, d) => bytes.length + uptoBulk d + 1
  | (_, d) => uptoBulk d + 1
 end
def uptoSmall : (H : Type) → List (DataW H) → Bool := fun _ ds => decide (uptoBulkAll ds ≤ 1048576)
def OpenSpec.upto (s : _root_.Go.ChangeSpec) : _root_.Go.OpenSpec := { _root_.Go.OpenSpec.ofChange s with cond := some uptoSmall }

/-- 'penfoldlaw19.WorldSteps', WHERE WHAT IT READS IS OF BULK AT MOST 1048576: true; the input reads as it did. -/
def worldStepsUptoRow : OpenClaim := { program := "ytfffmmahegdfiaagreat", sum := "987a09c470dd52f8acccb2df449813587dd0ad18ffde97016b0c4e1111c216e7", func := "penfold/penfoldlaw19.WorldSteps", spec := "worldSteps", unfollowed := true, recurses := true, apart := false, narrowed := true }
def WorldStepsUptoSaid : Prop := worldStepsUptoRow.holds Tryz.pinned (OpenSpec.upto worldStepsSpec)

/-- 'penfoldlaw19.WorldTimes', WHERE WHAT IT READS IS OF BULK AT MOST 1048576: true; the input reads as it did. -/
def worldTimesUptoRow : OpenClaim := { program := "ytfffmmahegdfiaagreat", sum := "987a09c470dd52f8acccb2df449813587dd0ad18ffde97016b0c4e1111c216e7", func := "penfold/penfoldlaw19.WorldTimes", spec := "worldTimes", unfollowed := true, recurses := true, apart := false, narrowed := true }
def WorldTimesUptoSaid : Prop := worldTimesUptoRow.holds Tryz.pinned (OpenSpec.upto worldTimesSpec)

/-- 'penfoldlaw19.WorldOwn', WHERE WHAT IT READS IS OF BULK AT MOST 1048576: true; the input reads as it did. -/
def worldOwnUptoRow : OpenClaim := { program := "ytfffmmahegdfiaagreat", sum := "987a09c470dd52f8acccb2df449813587dd0ad18ffde97016b0c4e1111c216e7", func := "penfold/penfoldlaw19.WorldOwn", spec := "worldOwn", unfollowed := true, recurses := true, apart := false, narrowed := true }
def WorldOwnUptoSaid : Prop := worldOwnUptoRow.holds Tryz.pinned (OpenSpec.upto worldOwnSpec)

/-- 'penfoldlaw19.WorldNew', WHERE WHAT IT READS IS OF BULK AT MOST 1048576: true; the input reads as it did. -/
def worldNewUptoRow : OpenClaim := { program := "ytfffmmahegdfiaagreat", sum := "987a09c470dd52f8acccb2df449813587dd0ad18ffde97016b0c4e1111c216e7", func := "penfold/penfoldlaw19.WorldNew", spec := "worldNew", unfollowed := true, recurses := true, apart := false, narrowed := true }
def WorldNewUptoSaid : Prop := worldNewUptoRow.holds Tryz.pinned (OpenSpec.upto worldNewSpec)

end Rows
end Go.Proofs.YtfffmmahegdfiaaGreat
