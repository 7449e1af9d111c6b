/-
  No cell of these rows narrows 'for every input' (looked for: loops, veiled, ifaces, maps, wideKeys, modest, calm, conditions, laid).
  DERIVED. THE GIVEN ROWS OF THIS SEAT. 5 by the template 'for every input the law returns true; each argument reads behind the call as it read before'; 0 by the template 'total and deterministic' (their statements: YtalgdihaeglleaaTotals.lean).
  GIVEN WITH THE SEED: the statements are not yours to turn. If you find one false, say at which input.
  Laid BY PROGRAM, IN A SANDBOX (cutbox-rows.mjs): the forced cells as the released guide's own fill.sh prints them over the translation e7a07503a6280639… (all of the seat's roots in one cut). By AI agents, Wed Nov 11 2026. No macro, syntax, notation, axiom, sorry.
-/
import Derived.Test.YtalgdihaeglleaaChecked
import GoSem.Claim
import GoSem.ClaimJoined
import GoSem.ClaimMapViews
import Derived.JoinedTies
import Derived.KernelRfl
namespace Go.Proofs.Ytalgdihaeglleaa
/- THE CELL 'sum', in the pinned program and in every row, IS THE sha256 OF THE DUMP (.gsa) THAT YtalgdihaeglleaaProg.lean LOADS. Nothing in Lean hashes anything: it is a label: what it is worth is what the hold of that sum in a sandbox is worth. -/
noncomputable def Try.pinned : Pinned := { name := "ytalgdihaeglleaa", sum := "e7a07503a6280639a59ea24cee7182e4a638ce933e57f4d2cce6881e91284f31", checked := Try.checked }
namespace Rows
def none {H : Type} : Left H := { results := [], args := [] }

/-- 'emendatorlaw08.ExpandGroup': WHATEVER THE INPUT: true; the input reads as it did. -/
def expandGroupSpec : ChangeSpec := { name := "expandGroup", fn := fun _ => fun
  | [d1, d2, d3, d4] => { results := [.lit (.bool true)], args := [d1, d2, d3, d4] }
  | _ => none }
def expandGroupRow : OpenClaim := { program := "ytalgdihaeglleaa", sum := "e7a07503a6280639a59ea24cee7182e4a638ce933e57f4d2cce6881e91284f31", func := "emendator/emendatorlaw08.ExpandGroup", spec := "expandGroup", unfollowed := true, recurses := true, apart := false }
def ExpandGroupSaid : Prop := expandGroupRow.holds Try.pinned (OpenSpec.ofChange expandGroupSpec)

/-- ITS FALSE NEIGHBOUR: 'it returns false'. Refute it at one input. -/
def expandGroupWrong : ChangeSpec := { name := "expandGroup", fn := fun _ => fun
  | [d1, d2, d3, d4] => { results := [.lit (.bool false)], args := [d1, d2, d3, d4] }
  | _ => none }
def ExpandGroupWrongFalsely : Prop := expandGroupRow.holds Try.pinned (OpenSpec.ofChange expandGroupWrong)

/-- 'emendatorlaw08.ExpandSplits': WHATEVER THE INPUT: true; the input reads as it did. -/
def expandSplitsSpec : ChangeSpec := { name := "expandSplits", fn := fun _ => fun
  | [d1, d2, d3] => { results := [.lit (.bool true)], args := [d1, d2, d3] }
  | _ => none }
def expandSplitsRow : OpenClaim := { program := "ytalgdihaeglleaa", sum := "e7a07503a6280639a59ea24cee7182e4a638ce933e57f4d2cce6881e91284f31", func := "emendator/emendatorlaw08.ExpandSplits", spec := "expandSplits", unfollowed := true, recurses := true, apart := false }
def ExpandSplitsSaid : Prop := expandSplitsRow.holds Try.pinned (OpenSpec.ofChange expandSplitsSpec)

/-- ITS FALSE NEIGHBOUR: 'it returns false'. Refute it at one input. -/
def expandSplitsWrong : ChangeSpec := { name := "expandSplits", fn := fun _ => fun
  | [d1, d2, d3] => { results := [.lit (.bool false)], args := [d1, d2, d3] }
  | _ => none }
def ExpandSplitsWrongFalsely : Prop := expandSplitsRow.holds Try.pinned (OpenSpec.ofChange expandSplitsWrong)

/-- 'emendatorlaw08.ExpandLines': WHATEVER THE INPUT: true; the input reads as it did. -/
def expandLinesSpec : ChangeSpec := { name := "expandLines", fn := fun _ => fun
  | [d1, d2, d3] => { results := [.lit (.bool true)], args := [d1, d2, d3] }
  | _ => none }
def expandLinesRow : OpenClaim := { program := "ytalgdihaeglleaa", sum := "e7a07503a6280639a59ea24cee7182e4a638ce933e57f4d2cce6881e91284f31", func := "emendator/emendatorlaw08.ExpandLines", spec := "expandLines", unfollowed := true, recurses := true, apart := false }
def ExpandLinesSaid : Prop := expandLinesRow.holds Try.pinned (OpenSpec.ofChange expandLinesSpec)

/-- ITS FALSE NEIGHBOUR: 'it returns false'. Refute it at one input. -/
def expandLinesWrong : ChangeSpec := { name := "expandLines", fn := fun _ => fun
  | [d1, d2, d3] => { results := [.lit (.bool false)], args := [d1, d2, d3] }
  | _ => none }
def ExpandLinesWrongFalsely : Prop := expandLinesRow.holds Try.pinned (OpenSpec.ofChange expandLinesWrong)

/-- 'emendatorlaw08.ExpandParts': WHATEVER THE INPUT: true; the input reads as it did. -/
def expandPartsSpec : ChangeSpec := { name := "expandParts", fn := fun _ => fun
  | [d1, d2, d3, d4] => { results := [.lit (.bool true)], args := [d1, d2, d3, d4] }
  | _ => none }
def expandPartsRow : OpenClaim := { program := "ytalgdihaeglleaa", sum := "e7a07503a6280639a59ea24cee7182e4a638ce933e57f4d2cce6881e91284f31", func := "emendator/emendatorlaw08.ExpandParts", spec := "expandParts", unfollowed := true, recurses := true, apart := false }
def ExpandPartsSaid : Prop := expandPartsRow.holds Try.pinned (OpenSpec.ofChange expandPartsSpec)

/-- ITS FALSE NEIGHBOUR: 'it returns false'. Refute it at one input. -/
def expandPartsWrong : ChangeSpec := { name := "expandParts", fn := fun _ => fun
  | [d1, d2, d3, d4] => { results := [.lit (.bool false)], args := [d1, d2, d3, d4] }
  | _ => none }
def ExpandPartsWrongFalsely : Prop := expandPartsRow.holds Try.pinned (OpenSpec.ofChange expandPartsWrong)

/-- 'emendatorlaw08.ExpandCases': WHATEVER THE INPUT: true; the input reads as it did. -/
def expandCasesSpec : ChangeSpec := { name := "expandCases", fn := fun _ => fun
  | [d1, d2, d3] => { results := [.lit (.bool true)], args := [d1, d2, d3] }
  | _ => none }
def expandCasesRow : OpenClaim := { program := "ytalgdihaeglleaa", sum := "e7a07503a6280639a59ea24cee7182e4a638ce933e57f4d2cce6881e91284f31", func := "emendator/emendatorlaw08.ExpandCases", spec := "expandCases", unfollowed := true, recurses := true, apart := false }
def ExpandCasesSaid : Prop := expandCasesRow.holds Try.pinned (OpenSpec.ofChange expandCasesSpec)

/-- ITS FALSE NEIGHBOUR: 'it returns false'. Refute it at one input. -/
def expandCasesWrong : ChangeSpec := { name := "expandCases", fn := fun _ => fun
  | [d1, d2, d3] => { results := [.lit (.bool false)], args := [d1, d2, d3] }
  | _ => none }
def ExpandCasesWrongFalsely : Prop := expandCasesRow.holds Try.pinned (OpenSpec.ofChange expandCasesWrong)

/- THE SECOND FORM. 'bulk': how many values and letters a reading holds, each counted each time it is reached (what is shared counts as often as it is met; a slice's spare places count too). A statement '..UptoSaid' is the law's where the arguments, and the package variables that the reading takes, are together of bulk at most 1048576: NARROWER than '..Said'. Prove '..Said' where nothing that the law and all that it calls make is longer than what came in: it says more and counts as full. Else prove '..UptoSaid'. A law counts once. -/
mutual
def uptoBulk {H : Type} : DataW H → Nat
  | .lit (.string bytes) => bytes.length + 1
  | .lit _ => 1
  | .nil => 1
  | .ptr d => uptoBulk d + 1
  | .slice elems spare => uptoBulkAll elems + uptoBulkAll spare + 1
  | .agg parts => uptoBulkAll parts + 1
  | .iface _ d => uptoBulk d + 1
  | .map entries => uptoBulkEntries entries + 1
  | .held _ => 1
def uptoBulkAll {H : Type} : List (DataW H) → Nat
  | [] => 0
  | d :: r => uptoBulk d + uptoBulkAll r
def uptoBulkEntries {H : Type} : List (Lit × DataW H) → Nat
  | [] => 0
  | x :: r => uptoBulkEntry x + uptoBulkEntries r
def uptoBulkEntry {H : Type} : Lit × DataW H → Nat
  | (.string bytes, d) => bytes.length + uptoBulk d + 1
  | (_, d) => uptoBulk d + 1
 end
def uptoSmall : (H : Type) → List (DataW H) → Bool := fun _ ds => decide (uptoBulkAll ds ≤ 1048576)
def OpenSpec.upto (s : _root_.Go.ChangeSpec) : _root_.Go.OpenSpec := { _root_.Go.OpenSpec.ofChange s with cond := some uptoSmall }

/-- 'emendatorlaw08.ExpandGroup', WHERE WHAT IT READS IS OF BULK AT MOST 1048576: true; the input reads as it did. -/
def expandGroupUptoRow : OpenClaim := { program := "ytalgdihaeglleaa", sum := "e7a07503a6280639a59ea24cee7182e4a638ce933e57f4d2cce6881e91284f31", func := "emendator/emendatorlaw08.ExpandGroup", spec := "expandGroup", unfollowed := true, recurses := true, apart := false, narrowed := true }
def ExpandGroupUptoSaid : Prop := expandGroupUptoRow.holds Try.pinned (OpenSpec.upto expandGroupSpec)

/-- 'emendatorlaw08.ExpandSplits', WHERE WHAT IT READS IS OF BULK AT MOST 1048576: true; the input reads as it did. -/
def expandSplitsUptoRow : OpenClaim := { program := "ytalgdihaeglleaa", sum := "e7a07503a6280639a59ea24cee7182e4a638ce933e57f4d2cce6881e91284f31", func := "emendator/emendatorlaw08.ExpandSplits", spec := "expandSplits", unfollowed := true, recurses := true, apart := false, narrowed := true }
def ExpandSplitsUptoSaid : Prop := expandSplitsUptoRow.holds Try.pinned (OpenSpec.upto expandSplitsSpec)

/-- 'emendatorlaw08.ExpandLines', WHERE WHAT IT READS IS OF BULK AT MOST 1048576: true; the input reads as it did. -/
def expandLinesUptoRow : OpenClaim := { program := "ytalgdihaeglleaa", sum := "e7a07503a6280639a59ea24cee7182e4a638ce933e57f4d2cce6881e91284f31", func := "emendator/emendatorlaw08.ExpandLines", spec := "expandLines", unfollowed := true, recurses := true, apart := false, narrowed := true }
def ExpandLinesUptoSaid : Prop := expandLinesUptoRow.holds Try.pinned (OpenSpec.upto expandLinesSpec)

/-- 'emendatorlaw08.ExpandParts', WHERE WHAT IT READS IS OF BULK AT MOST 1048576: true; the input reads as it did. -/
def expandPartsUptoRow : OpenClaim := { program := "ytalgdihaeglleaa", sum := "e7a07503a6280639a59ea24cee7182e4a638ce933e57f4d2cce6881e91284f31", func := "emendator/emendatorlaw08.ExpandParts", spec := "expandParts", unfollowed := true, recurses := true, apart := false, narrowed := true }
def ExpandPartsUptoSaid : Prop := expandPartsUptoRow.holds Try.pinned (OpenSpec.upto expandPartsSpec)

/-- 'emendatorlaw08.ExpandCases', WHERE WHAT IT READS IS OF BULK AT MOST 1048576: true; the input reads as it did. -/
def expandCasesUptoRow : OpenClaim := { program := "ytalgdihaeglleaa", sum := "e7a07503a6280639a59ea24cee7182e4a638ce933e57f4d2cce6881e91284f31", func := "emendator/emendatorlaw08.ExpandCases", spec := "expandCases", unfollowed := true, recurses := true, apart := false, narrowed := true }
def ExpandCasesUptoSaid : Prop := expandCasesUptoRow.holds Try.pinned (OpenSpec.upto expandCasesSpec)

end Rows
end Go.Proofs.Ytalgdihaeglleaa
