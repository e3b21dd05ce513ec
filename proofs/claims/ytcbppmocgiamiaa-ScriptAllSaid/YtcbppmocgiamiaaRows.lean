/-
  No cell of these rows narrows 'for every input' (looked for: loops, veiled, ifaces, maps, wideKeys, modest, calm, conditions, laid).
  DERIVED. THE GIVEN ROWS OF THIS SEAT. 6 by the template 'for every input the law returns true; each argument reads behind the call as it read before'; 0 by the template 'total and deterministic' (their statements: YtcbppmocgiamiaaTotals.lean).
  GIVEN WITH THE SEED: the statements are not yours to turn. If you find one false, say at which input.
  Laid BY PROGRAM, IN A SANDBOX (cutbox-rows.mjs): the forced cells as the released guide's own fill.sh prints them over the translation f4127dde0d535c10… (all of the seat's roots in one cut). By AI agents, Wed Nov 11 2026. No macro, syntax, notation, axiom, sorry.
-/
import Derived.Test.YtcbppmocgiamiaaChecked
import GoSem.Claim
import GoSem.ClaimJoined
import GoSem.ClaimMapViews
import Derived.JoinedTies
import Derived.KernelRfl
namespace Go.Proofs.Ytcbppmocgiamiaa
/- THE CELL 'sum', in the pinned program and in every row, IS THE sha256 OF THE DUMP (.gsa) THAT YtcbppmocgiamiaaProg.lean LOADS. Nothing in Lean hashes anything: it is a label: what it is worth is what the hold of that sum in a sandbox is worth. -/
noncomputable def Try.pinned : Pinned := { name := "ytcbppmocgiamiaa", sum := "f4127dde0d535c1092fb2beffa970864331cc86ab6f97409ac9b31050025f572", checked := Try.checked }
namespace Rows
def none {H : Type} : Left H := { results := [], args := [] }

/-- 'penfoldlaw21.ScriptAll': WHATEVER THE INPUT: true; the input reads as it did. -/
def scriptAllSpec : ChangeSpec := { name := "scriptAll", fn := fun _ => fun
  | [d1, d2] => { results := [.lit (.bool true)], args := [d1, d2] }
  | _ => none }
def scriptAllRow : OpenClaim := { program := "ytcbppmocgiamiaa", sum := "f4127dde0d535c1092fb2beffa970864331cc86ab6f97409ac9b31050025f572", func := "penfold/penfoldlaw21.ScriptAll", spec := "scriptAll", unfollowed := true, recurses := true, apart := false }
def ScriptAllSaid : Prop := scriptAllRow.holds Try.pinned (OpenSpec.ofChange scriptAllSpec)

/-- ITS FALSE NEIGHBOUR: 'it returns false'. Refute it at one input. -/
def scriptAllWrong : ChangeSpec := { name := "scriptAll", fn := fun _ => fun
  | [d1, d2] => { results := [.lit (.bool false)], args := [d1, d2] }
  | _ => none }
def ScriptAllWrongFalsely : Prop := scriptAllRow.holds Try.pinned (OpenSpec.ofChange scriptAllWrong)

/-- 'penfoldlaw21.ScriptMay': WHATEVER THE INPUT: true; the input reads as it did. -/
def scriptMaySpec : ChangeSpec := { name := "scriptMay", fn := fun _ => fun
  | [d] => { results := [.lit (.bool true)], args := [d] }
  | _ => none }
def scriptMayRow : OpenClaim := { program := "ytcbppmocgiamiaa", sum := "f4127dde0d535c1092fb2beffa970864331cc86ab6f97409ac9b31050025f572", func := "penfold/penfoldlaw21.ScriptMay", spec := "scriptMay", unfollowed := true, recurses := true, apart := false }
def ScriptMaySaid : Prop := scriptMayRow.holds Try.pinned (OpenSpec.ofChange scriptMaySpec)

/-- ITS FALSE NEIGHBOUR: 'it returns false'. Refute it at one input. -/
def scriptMayWrong : ChangeSpec := { name := "scriptMay", fn := fun _ => fun
  | [d] => { results := [.lit (.bool false)], args := [d] }
  | _ => none }
def ScriptMayWrongFalsely : Prop := scriptMayRow.holds Try.pinned (OpenSpec.ofChange scriptMayWrong)

/-- 'penfoldlaw21.ScriptBack': WHATEVER THE INPUT: true; the input reads as it did. -/
def scriptBackSpec : ChangeSpec := { name := "scriptBack", fn := fun _ => fun
  | [d1, d2] => { results := [.lit (.bool true)], args := [d1, d2] }
  | _ => none }
def scriptBackRow : OpenClaim := { program := "ytcbppmocgiamiaa", sum := "f4127dde0d535c1092fb2beffa970864331cc86ab6f97409ac9b31050025f572", func := "penfold/penfoldlaw21.ScriptBack", spec := "scriptBack", unfollowed := true, recurses := true, apart := false }
def ScriptBackSaid : Prop := scriptBackRow.holds Try.pinned (OpenSpec.ofChange scriptBackSpec)

/-- ITS FALSE NEIGHBOUR: 'it returns false'. Refute it at one input. -/
def scriptBackWrong : ChangeSpec := { name := "scriptBack", fn := fun _ => fun
  | [d1, d2] => { results := [.lit (.bool false)], args := [d1, d2] }
  | _ => none }
def ScriptBackWrongFalsely : Prop := scriptBackRow.holds Try.pinned (OpenSpec.ofChange scriptBackWrong)

/-- 'penfoldlaw21.ScriptPuts': WHATEVER THE INPUT: true; the input reads as it did. -/
def scriptPutsSpec : ChangeSpec := { name := "scriptPuts", fn := fun _ => fun
  | [d] => { results := [.lit (.bool true)], args := [d] }
  | _ => none }
def scriptPutsRow : OpenClaim := { program := "ytcbppmocgiamiaa", sum := "f4127dde0d535c1092fb2beffa970864331cc86ab6f97409ac9b31050025f572", func := "penfold/penfoldlaw21.ScriptPuts", spec := "scriptPuts", unfollowed := true, recurses := true, apart := false }
def ScriptPutsSaid : Prop := scriptPutsRow.holds Try.pinned (OpenSpec.ofChange scriptPutsSpec)

/-- ITS FALSE NEIGHBOUR: 'it returns false'. Refute it at one input. -/
def scriptPutsWrong : ChangeSpec := { name := "scriptPuts", fn := fun _ => fun
  | [d] => { results := [.lit (.bool false)], args := [d] }
  | _ => none }
def ScriptPutsWrongFalsely : Prop := scriptPutsRow.holds Try.pinned (OpenSpec.ofChange scriptPutsWrong)

/-- 'penfoldlaw21.ScriptLoose': WHATEVER THE INPUT: true; the input reads as it did. -/
def scriptLooseSpec : ChangeSpec := { name := "scriptLoose", fn := fun _ => fun
  | [d1, d2] => { results := [.lit (.bool true)], args := [d1, d2] }
  | _ => none }
def scriptLooseRow : OpenClaim := { program := "ytcbppmocgiamiaa", sum := "f4127dde0d535c1092fb2beffa970864331cc86ab6f97409ac9b31050025f572", func := "penfold/penfoldlaw21.ScriptLoose", spec := "scriptLoose", unfollowed := true, recurses := true, apart := false }
def ScriptLooseSaid : Prop := scriptLooseRow.holds Try.pinned (OpenSpec.ofChange scriptLooseSpec)

/-- ITS FALSE NEIGHBOUR: 'it returns false'. Refute it at one input. -/
def scriptLooseWrong : ChangeSpec := { name := "scriptLoose", fn := fun _ => fun
  | [d1, d2] => { results := [.lit (.bool false)], args := [d1, d2] }
  | _ => none }
def ScriptLooseWrongFalsely : Prop := scriptLooseRow.holds Try.pinned (OpenSpec.ofChange scriptLooseWrong)

/-- 'penfoldlaw21.ScriptApart': WHATEVER THE INPUT: true; the input reads as it did. -/
def scriptApartSpec : ChangeSpec := { name := "scriptApart", fn := fun _ => fun
  | [d] => { results := [.lit (.bool true)], args := [d] }
  | _ => none }
def scriptApartRow : OpenClaim := { program := "ytcbppmocgiamiaa", sum := "f4127dde0d535c1092fb2beffa970864331cc86ab6f97409ac9b31050025f572", func := "penfold/penfoldlaw21.ScriptApart", spec := "scriptApart", unfollowed := true, recurses := true, apart := false }
def ScriptApartSaid : Prop := scriptApartRow.holds Try.pinned (OpenSpec.ofChange scriptApartSpec)

/-- ITS FALSE NEIGHBOUR: 'it returns false'. Refute it at one input. -/
def scriptApartWrong : ChangeSpec := { name := "scriptApart", fn := fun _ => fun
  | [d] => { results := [.lit (.bool false)], args := [d] }
  | _ => none }
def ScriptApartWrongFalsely : Prop := scriptApartRow.holds Try.pinned (OpenSpec.ofChange scriptApartWrong)

/- THE SECOND FORM. 'bulk': how many values and letters a reading holds, each counted each time it is reached (what is shared counts as often as it is met; a slice's spare places count too). A statement '..UptoSaid' is the law's where the arguments, and the package variables that the reading takes, are together of bulk at most 1048576: NARROWER than '..Said'. Prove '..Said' where nothing that the law and all that it calls make is longer than what came in: it says more and counts as full. Else prove '..UptoSaid'. A law counts once. -/
mutual
def uptoBulk {H : Type} : DataW H → Nat
  | .lit (.string bytes) => bytes.length + 1
  | .lit _ => 1
  | .nil => 1
  | .ptr d => uptoBulk d + 1
  | .slice elems spare => uptoBulkAll elems + uptoBulkAll spare + 1
  | .agg parts => uptoBulkAll parts + 1
  | .iface _ d => uptoBulk d + 1
  | .map entries => uptoBulkEntries entries + 1
  | .held _ => 1
def uptoBulkAll {H : Type} : List (DataW H) → Nat
  | [] => 0
  | d :: r => uptoBulk d + uptoBulkAll r
def uptoBulkEntries {H : Type} : List (Lit × DataW H) → Nat
  | [] => 0
  | x :: r => uptoBulkEntry x + uptoBulkEntries r
def uptoBulkEntry {H : Type} : Lit × DataW H → Nat
  | (.string bytes, d) => bytes.length + uptoBulk d + 1
  | (_, d) => uptoBulk d + 1
 end
def uptoSmall : (H : Type) → List (DataW H) → Bool := fun _ ds => decide (uptoBulkAll ds ≤ 1048576)
def OpenSpec.upto (s : _root_.Go.ChangeSpec) : _root_.Go.OpenSpec := { _root_.Go.OpenSpec.ofChange s with cond := some uptoSmall }

/-- 'penfoldlaw21.ScriptAll', WHERE WHAT IT READS IS OF BULK AT MOST 1048576: true; the input reads as it did. -/
def scriptAllUptoRow : OpenClaim := { program := "ytcbppmocgiamiaa", sum := "f4127dde0d535c1092fb2beffa970864331cc86ab6f97409ac9b31050025f572", func := "penfold/penfoldlaw21.ScriptAll", spec := "scriptAll", unfollowed := true, recurses := true, apart := false, narrowed := true }
def ScriptAllUptoSaid : Prop := scriptAllUptoRow.holds Try.pinned (OpenSpec.upto scriptAllSpec)

/-- 'penfoldlaw21.ScriptMay', WHERE WHAT IT READS IS OF BULK AT MOST 1048576: true; the input reads as it did. -/
def scriptMayUptoRow : OpenClaim := { program := "ytcbppmocgiamiaa", sum := "f4127dde0d535c1092fb2beffa970864331cc86ab6f97409ac9b31050025f572", func := "penfold/penfoldlaw21.ScriptMay", spec := "scriptMay", unfollowed := true, recurses := true, apart := false, narrowed := true }
def ScriptMayUptoSaid : Prop := scriptMayUptoRow.holds Try.pinned (OpenSpec.upto scriptMaySpec)

/-- 'penfoldlaw21.ScriptBack', WHERE WHAT IT READS IS OF BULK AT MOST 1048576: true; the input reads as it did. -/
def scriptBackUptoRow : OpenClaim := { program := "ytcbppmocgiamiaa", sum := "f4127dde0d535c1092fb2beffa970864331cc86ab6f97409ac9b31050025f572", func := "penfold/penfoldlaw21.ScriptBack", spec := "scriptBack", unfollowed := true, recurses := true, apart := false, narrowed := true }
def ScriptBackUptoSaid : Prop := scriptBackUptoRow.holds Try.pinned (OpenSpec.upto scriptBackSpec)

/-- 'penfoldlaw21.ScriptPuts', WHERE WHAT IT READS IS OF BULK AT MOST 1048576: true; the input reads as it did. -/
def scriptPutsUptoRow : OpenClaim := { program := "ytcbppmocgiamiaa", sum := "f4127dde0d535c1092fb2beffa970864331cc86ab6f97409ac9b31050025f572", func := "penfold/penfoldlaw21.ScriptPuts", spec := "scriptPuts", unfollowed := true, recurses := true, apart := false, narrowed := true }
def ScriptPutsUptoSaid : Prop := scriptPutsUptoRow.holds Try.pinned (OpenSpec.upto scriptPutsSpec)

/-- 'penfoldlaw21.ScriptLoose', WHERE WHAT IT READS IS OF BULK AT MOST 1048576: true; the input reads as it did. -/
def scriptLooseUptoRow : OpenClaim := { program := "ytcbppmocgiamiaa", sum := "f4127dde0d535c1092fb2beffa970864331cc86ab6f97409ac9b31050025f572", func := "penfold/penfoldlaw21.ScriptLoose", spec := "scriptLoose", unfollowed := true, recurses := true, apart := false, narrowed := true }
def ScriptLooseUptoSaid : Prop := scriptLooseUptoRow.holds Try.pinned (OpenSpec.upto scriptLooseSpec)

/-- 'penfoldlaw21.ScriptApart', WHERE WHAT IT READS IS OF BULK AT MOST 1048576: true; the input reads as it did. -/
def scriptApartUptoRow : OpenClaim := { program := "ytcbppmocgiamiaa", sum := "f4127dde0d535c1092fb2beffa970864331cc86ab6f97409ac9b31050025f572", func := "penfold/penfoldlaw21.ScriptApart", spec := "scriptApart", unfollowed := true, recurses := true, apart := false, narrowed := true }
def ScriptApartUptoSaid : Prop := scriptApartUptoRow.holds Try.pinned (OpenSpec.upto scriptApartSpec)

end Rows
end Go.Proofs.Ytcbppmocgiamiaa
