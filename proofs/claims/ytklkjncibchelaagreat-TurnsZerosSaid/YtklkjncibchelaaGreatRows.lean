/-
  No cell of these rows narrows 'for every input' (looked for: loops, veiled, ifaces, maps, wideKeys, modest, calm, conditions, laid).
  DERIVED. THE GIVEN ROWS OF THIS SEAT. 6 by the template 'for every input the law returns true; each argument reads behind the call as it read before'; 0 by the template 'total and deterministic' (their statements: YtklkjncibchelaaGreatTotals.lean).
  GIVEN WITH THE SEED: the statements are not yours to turn. If you find one false, say at which input.
  Laid BY PROGRAM, IN A SANDBOX (cutbox-rows.mjs): the forced cells as the released guide's own fill.sh prints them over the translation 5fa0415e4cb2c018… (all of the seat's roots in one cut). By AI agents, Wed Nov 11 2026. No macro, syntax, notation, axiom, sorry.
-/
import Derived.Test.YtklkjncibchelaaGreatChecked
import GoSem.Claim
import GoSem.ClaimJoined
import GoSem.ClaimMapViews
import Derived.JoinedTies
import Derived.KernelRfl
namespace Go.Proofs.YtklkjncibchelaaGreat
/- THE CELL 'sum', in the pinned program and in every row, IS THE sha256 OF THE DUMP (.gsa) THAT YtklkjncibchelaaGreatProg.lean LOADS. Nothing in Lean hashes anything: it is a label: what it is worth is what the hold of that sum in a sandbox is worth. -/
noncomputable def Tryz.pinned : Pinned := { name := "ytklkjncibchelaagreat", sum := "5fa0415e4cb2c018cb0f7f63f9e629cdd6177e7b9324b35fae604d24649d28db", checked := Tryz.checked }
namespace Rows
def none {H : Type} : Left H := { results := [], args := [] }

/-- 'penfoldlaw20.TurnsPlaces': WHATEVER THE INPUT: true; the input reads as it did. -/
def turnsPlacesSpec : ChangeSpec := { name := "turnsPlaces", fn := fun _ => fun
  | [d1, d2] => { results := [.lit (.bool true)], args := [d1, d2] }
  | _ => none }
def turnsPlacesRow : OpenClaim := { program := "ytklkjncibchelaagreat", sum := "5fa0415e4cb2c018cb0f7f63f9e629cdd6177e7b9324b35fae604d24649d28db", func := "penfold/penfoldlaw20.TurnsPlaces", spec := "turnsPlaces", unfollowed := true, recurses := true, apart := false }
def TurnsPlacesSaid : Prop := turnsPlacesRow.holds Tryz.pinned (OpenSpec.ofChange turnsPlacesSpec)

/-- ITS FALSE NEIGHBOUR: 'it returns false'. Refute it at one input. -/
def turnsPlacesWrong : ChangeSpec := { name := "turnsPlaces", fn := fun _ => fun
  | [d1, d2] => { results := [.lit (.bool false)], args := [d1, d2] }
  | _ => none }
def TurnsPlacesWrongFalsely : Prop := turnsPlacesRow.holds Tryz.pinned (OpenSpec.ofChange turnsPlacesWrong)

/-- 'penfoldlaw20.TurnsRounds': WHATEVER THE INPUT: true; the input reads as it did. -/
def turnsRoundsSpec : ChangeSpec := { name := "turnsRounds", fn := fun _ => fun
  | [d1, d2] => { results := [.lit (.bool true)], args := [d1, d2] }
  | _ => none }
def turnsRoundsRow : OpenClaim := { program := "ytklkjncibchelaagreat", sum := "5fa0415e4cb2c018cb0f7f63f9e629cdd6177e7b9324b35fae604d24649d28db", func := "penfold/penfoldlaw20.TurnsRounds", spec := "turnsRounds", unfollowed := true, recurses := true, apart := false }
def TurnsRoundsSaid : Prop := turnsRoundsRow.holds Tryz.pinned (OpenSpec.ofChange turnsRoundsSpec)

/-- ITS FALSE NEIGHBOUR: 'it returns false'. Refute it at one input. -/
def turnsRoundsWrong : ChangeSpec := { name := "turnsRounds", fn := fun _ => fun
  | [d1, d2] => { results := [.lit (.bool false)], args := [d1, d2] }
  | _ => none }
def TurnsRoundsWrongFalsely : Prop := turnsRoundsRow.holds Tryz.pinned (OpenSpec.ofChange turnsRoundsWrong)

/-- 'penfoldlaw20.TurnsFair': WHATEVER THE INPUT: true; the input reads as it did. -/
def turnsFairSpec : ChangeSpec := { name := "turnsFair", fn := fun _ => fun
  | [d1, d2] => { results := [.lit (.bool true)], args := [d1, d2] }
  | _ => none }
def turnsFairRow : OpenClaim := { program := "ytklkjncibchelaagreat", sum := "5fa0415e4cb2c018cb0f7f63f9e629cdd6177e7b9324b35fae604d24649d28db", func := "penfold/penfoldlaw20.TurnsFair", spec := "turnsFair", unfollowed := true, recurses := true, apart := false }
def TurnsFairSaid : Prop := turnsFairRow.holds Tryz.pinned (OpenSpec.ofChange turnsFairSpec)

/-- ITS FALSE NEIGHBOUR: 'it returns false'. Refute it at one input. -/
def turnsFairWrong : ChangeSpec := { name := "turnsFair", fn := fun _ => fun
  | [d1, d2] => { results := [.lit (.bool false)], args := [d1, d2] }
  | _ => none }
def TurnsFairWrongFalsely : Prop := turnsFairRow.holds Tryz.pinned (OpenSpec.ofChange turnsFairWrong)

/-- 'penfoldlaw20.TurnsEnds': WHATEVER THE INPUT: true; the input reads as it did. -/
def turnsEndsSpec : ChangeSpec := { name := "turnsEnds", fn := fun _ => fun
  | [d1, d2] => { results := [.lit (.bool true)], args := [d1, d2] }
  | _ => none }
def turnsEndsRow : OpenClaim := { program := "ytklkjncibchelaagreat", sum := "5fa0415e4cb2c018cb0f7f63f9e629cdd6177e7b9324b35fae604d24649d28db", func := "penfold/penfoldlaw20.TurnsEnds", spec := "turnsEnds", unfollowed := true, recurses := true, apart := false }
def TurnsEndsSaid : Prop := turnsEndsRow.holds Tryz.pinned (OpenSpec.ofChange turnsEndsSpec)

/-- ITS FALSE NEIGHBOUR: 'it returns false'. Refute it at one input. -/
def turnsEndsWrong : ChangeSpec := { name := "turnsEnds", fn := fun _ => fun
  | [d1, d2] => { results := [.lit (.bool false)], args := [d1, d2] }
  | _ => none }
def TurnsEndsWrongFalsely : Prop := turnsEndsRow.holds Tryz.pinned (OpenSpec.ofChange turnsEndsWrong)

/-- 'penfoldlaw20.TurnsPlays': WHATEVER THE INPUT: true; the input reads as it did. -/
def turnsPlaysSpec : ChangeSpec := { name := "turnsPlays", fn := fun _ => fun
  | [d1, d2, d3] => { results := [.lit (.bool true)], args := [d1, d2, d3] }
  | _ => none }
def turnsPlaysRow : OpenClaim := { program := "ytklkjncibchelaagreat", sum := "5fa0415e4cb2c018cb0f7f63f9e629cdd6177e7b9324b35fae604d24649d28db", func := "penfold/penfoldlaw20.TurnsPlays", spec := "turnsPlays", unfollowed := true, recurses := true, apart := false }
def TurnsPlaysSaid : Prop := turnsPlaysRow.holds Tryz.pinned (OpenSpec.ofChange turnsPlaysSpec)

/-- ITS FALSE NEIGHBOUR: 'it returns false'. Refute it at one input. -/
def turnsPlaysWrong : ChangeSpec := { name := "turnsPlays", fn := fun _ => fun
  | [d1, d2, d3] => { results := [.lit (.bool false)], args := [d1, d2, d3] }
  | _ => none }
def TurnsPlaysWrongFalsely : Prop := turnsPlaysRow.holds Tryz.pinned (OpenSpec.ofChange turnsPlaysWrong)

/-- 'penfoldlaw20.TurnsZeros': WHATEVER THE INPUT: true; the input reads as it did. -/
def turnsZerosSpec : ChangeSpec := { name := "turnsZeros", fn := fun _ => fun
  | [d1, d2, d3] => { results := [.lit (.bool true)], args := [d1, d2, d3] }
  | _ => none }
def turnsZerosRow : OpenClaim := { program := "ytklkjncibchelaagreat", sum := "5fa0415e4cb2c018cb0f7f63f9e629cdd6177e7b9324b35fae604d24649d28db", func := "penfold/penfoldlaw20.TurnsZeros", spec := "turnsZeros", unfollowed := true, recurses := true, apart := false }
def TurnsZerosSaid : Prop := turnsZerosRow.holds Tryz.pinned (OpenSpec.ofChange turnsZerosSpec)

/-- ITS FALSE NEIGHBOUR: 'it returns false'. Refute it at one input. -/
def turnsZerosWrong : ChangeSpec := { name := "turnsZeros", fn := fun _ => fun
  | [d1, d2, d3] => { results := [.lit (.bool false)], args := [d1, d2, d3] }
  | _ => none }
def TurnsZerosWrongFalsely : Prop := turnsZerosRow.holds Tryz.pinned (OpenSpec.ofChange turnsZerosWrong)

/- THE SECOND FORM. 'bulk': how many values and letters a reading holds, each counted each time it is reached (what is shared counts as often as it is met; a slice's spare places count too). A statement '..UptoSaid' is the law's where the arguments, and the package variables that the reading takes, are together of bulk at most 1048576: NARROWER than '..Said'. Prove '..Said' where nothing that the law and all that it calls make is longer than what came in: it says more and counts as full. Else prove '..UptoSaid'. A law counts once. -/
mutual
def uptoBulk {H : Type} : DataW H → Nat
  | .lit (.string bytes) => bytes.length + 1
  | .lit _ => 1
  | .nil => 1
  | .ptr d => uptoBulk d + 1
  | .slice elems spare => uptoBulkAll elems + uptoBulkAll spare + 1
  | .agg parts => uptoBulkAll parts + 1
  | .iface _ d => uptoBulk d + 1
  | .map entries => uptoBulkEntries entries + 1
  | .held _ => 1
def uptoBulkAll {H : Type} : List (DataW H) → Nat
  | [] => 0
  | d :: r => uptoBulk d + uptoBulkAll r
def uptoBulkEntries {H : Type} : List (Lit × DataW H) → Nat
  | [] => 0
  | x :: r => uptoBulkEntry x + uptoBulkEntries r
def uptoBulkEntry {H : Type} : Lit × DataW H → Nat
  | (.string bytes, d) => bytes.length + uptoBulk d + 1
  | (_, d) => uptoBulk d + 1
 end
def uptoSmall : (H : Type) → List (DataW H) → Bool := fun _ ds => decide (uptoBulkAll ds ≤ 1048576)
def OpenSpec.upto (s : _root_.Go.ChangeSpec) : _root_.Go.OpenSpec := { _root_.Go.OpenSpec.ofChange s with cond := some uptoSmall }

/-- 'penfoldlaw20.TurnsPlaces', WHERE WHAT IT READS IS OF BULK AT MOST 1048576: true; the input reads as it did. -/
def turnsPlacesUptoRow : OpenClaim := { program := "ytklkjncibchelaagreat", sum := "5fa0415e4cb2c018cb0f7f63f9e629cdd6177e7b9324b35fae604d24649d28db", func := "penfold/penfoldlaw20.TurnsPlaces", spec := "turnsPlaces", unfollowed := true, recurses := true, apart := false, narrowed := true }
def TurnsPlacesUptoSaid : Prop := turnsPlacesUptoRow.holds Tryz.pinned (OpenSpec.upto turnsPlacesSpec)

/-- 'penfoldlaw20.TurnsRounds', WHERE WHAT IT READS IS OF BULK AT MOST 1048576: true; the input reads as it did. -/
def turnsRoundsUptoRow : OpenClaim := { program := "ytklkjncibchelaagreat", sum := "5fa0415e4cb2c018cb0f7f63f9e629cdd6177e7b9324b35fae604d24649d28db", func := "penfold/penfoldlaw20.TurnsRounds", spec := "turnsRounds", unfollowed := true, recurses := true, apart := false, narrowed := true }
def TurnsRoundsUptoSaid : Prop := turnsRoundsUptoRow.holds Tryz.pinned (OpenSpec.upto turnsRoundsSpec)

/-- 'penfoldlaw20.TurnsFair', WHERE WHAT IT READS IS OF BULK AT MOST 1048576: true; the input reads as it did. -/
def turnsFairUptoRow : OpenClaim := { program := "ytklkjncibchelaagreat", sum := "5fa0415e4cb2c018cb0f7f63f9e629cdd6177e7b9324b35fae604d24649d28db", func := "penfold/penfoldlaw20.TurnsFair", spec := "turnsFair", unfollowed := true, recurses := true, apart := false, narrowed := true }
def TurnsFairUptoSaid : Prop := turnsFairUptoRow.holds Tryz.pinned (OpenSpec.upto turnsFairSpec)

/-- 'penfoldlaw20.TurnsEnds', WHERE WHAT IT READS IS OF BULK AT MOST 1048576: true; the input reads as it did. -/
def turnsEndsUptoRow : OpenClaim := { program := "ytklkjncibchelaagreat", sum := "5fa0415e4cb2c018cb0f7f63f9e629cdd6177e7b9324b35fae604d24649d28db", func := "penfold/penfoldlaw20.TurnsEnds", spec := "turnsEnds", unfollowed := true, recurses := true, apart := false, narrowed := true }
def TurnsEndsUptoSaid : Prop := turnsEndsUptoRow.holds Tryz.pinned (OpenSpec.upto turnsEndsSpec)

/-- 'penfoldlaw20.TurnsPlays', WHERE WHAT IT READS IS OF BULK AT MOST 1048576: true; the input reads as it did. -/
def turnsPlaysUptoRow : OpenClaim := { program := "ytklkjncibchelaagreat", sum := "5fa0415e4cb2c018cb0f7f63f9e629cdd6177e7b9324b35fae604d24649d28db", func := "penfold/penfoldlaw20.TurnsPlays", spec := "turnsPlays", unfollowed := true, recurses := true, apart := false, narrowed := true }
def TurnsPlaysUptoSaid : Prop := turnsPlaysUptoRow.holds Tryz.pinned (OpenSpec.upto turnsPlaysSpec)

/-- 'penfoldlaw20.TurnsZeros', WHERE WHAT IT READS IS OF BULK AT MOST 1048576: true; the input reads as it did. -/
def turnsZerosUptoRow : OpenClaim := { program := "ytklkjncibchelaagreat", sum := "5fa0415e4cb2c018cb0f7f63f9e629cdd6177e7b9324b35fae604d24649d28db", func := "penfold/penfoldlaw20.TurnsZeros", spec := "turnsZeros", unfollowed := true, recurses := true, apart := false, narrowed := true }
def TurnsZerosUptoSaid : Prop := turnsZerosUptoRow.holds Tryz.pinned (OpenSpec.upto turnsZerosSpec)

end Rows
end Go.Proofs.YtklkjncibchelaaGreat
