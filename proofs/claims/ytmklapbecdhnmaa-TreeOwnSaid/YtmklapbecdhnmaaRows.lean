/-
  No cell of these rows narrows 'for every input' (looked for: loops, veiled, ifaces, maps, wideKeys, modest, calm, conditions, laid).
  DERIVED. THE GIVEN ROWS OF THIS SEAT. 7 by the template 'for every input the law returns true; each argument reads behind the call as it read before'; 0 by the template 'total and deterministic' (their statements: YtmklapbecdhnmaaTotals.lean).
  GIVEN WITH THE SEED: the statements are not yours to turn. If you find one false, say at which input.
  Laid BY PROGRAM, IN A SANDBOX (cutbox-rows.mjs): the forced cells as the released guide's own fill.sh prints them over the translation ec9ef9a11c8ca36d… (all of the seat's roots in one cut). By AI agents, Wed Nov 11 2026. No macro, syntax, notation, axiom, sorry.
-/
import Derived.Test.YtmklapbecdhnmaaChecked
import GoSem.Claim
import GoSem.ClaimJoined
import GoSem.ClaimMapViews
import Derived.JoinedTies
import Derived.KernelRfl
namespace Go.Proofs.Ytmklapbecdhnmaa
/- THE CELL 'sum', in the pinned program and in every row, IS THE sha256 OF THE DUMP (.gsa) THAT YtmklapbecdhnmaaProg.lean LOADS. Nothing in Lean hashes anything: it is a label: what it is worth is what the hold of that sum in a sandbox is worth. -/
noncomputable def Try.pinned : Pinned := { name := "ytmklapbecdhnmaa", sum := "ec9ef9a11c8ca36db20c7e1aa2522ff48304c10d9a7911672b6329f51d1be0c5", checked := Try.checked }
namespace Rows
def none {H : Type} : Left H := { results := [], args := [] }

/-- 'emendatorlaw02.TreeGrows': WHATEVER THE INPUT: true; the input reads as it did. -/
def treeGrowsSpec : ChangeSpec := { name := "treeGrows", fn := fun _ => fun
  | [d] => { results := [.lit (.bool true)], args := [d] }
  | _ => none }
def treeGrowsRow : OpenClaim := { program := "ytmklapbecdhnmaa", sum := "ec9ef9a11c8ca36db20c7e1aa2522ff48304c10d9a7911672b6329f51d1be0c5", func := "emendator/emendatorlaw02.TreeGrows", spec := "treeGrows", inPlace := ["slices.overlaps[string]", "slices.overlaps[int]"], recurses := true, apart := false }
def TreeGrowsSaid : Prop := treeGrowsRow.holds Try.pinned (OpenSpec.ofChange treeGrowsSpec)

/-- ITS FALSE NEIGHBOUR: 'it returns false'. Refute it at one input. -/
def treeGrowsWrong : ChangeSpec := { name := "treeGrows", fn := fun _ => fun
  | [d] => { results := [.lit (.bool false)], args := [d] }
  | _ => none }
def TreeGrowsWrongFalsely : Prop := treeGrowsRow.holds Try.pinned (OpenSpec.ofChange treeGrowsWrong)

/-- 'emendatorlaw02.TreeParts': WHATEVER THE INPUT: true; the input reads as it did. -/
def treePartsSpec : ChangeSpec := { name := "treeParts", fn := fun _ => fun
  | [d1, d2, d3] => { results := [.lit (.bool true)], args := [d1, d2, d3] }
  | _ => none }
def treePartsRow : OpenClaim := { program := "ytmklapbecdhnmaa", sum := "ec9ef9a11c8ca36db20c7e1aa2522ff48304c10d9a7911672b6329f51d1be0c5", func := "emendator/emendatorlaw02.TreeParts", spec := "treeParts", inPlace := ["slices.overlaps[string]", "slices.overlaps[int]"], recurses := true, apart := false }
def TreePartsSaid : Prop := treePartsRow.holds Try.pinned (OpenSpec.ofChange treePartsSpec)

/-- ITS FALSE NEIGHBOUR: 'it returns false'. Refute it at one input. -/
def treePartsWrong : ChangeSpec := { name := "treeParts", fn := fun _ => fun
  | [d1, d2, d3] => { results := [.lit (.bool false)], args := [d1, d2, d3] }
  | _ => none }
def TreePartsWrongFalsely : Prop := treePartsRow.holds Try.pinned (OpenSpec.ofChange treePartsWrong)

/-- 'emendatorlaw02.TreeEmpties': WHATEVER THE INPUT: true; the input reads as it did. -/
def treeEmptiesSpec : ChangeSpec := { name := "treeEmpties", fn := fun _ => fun
  | [d1, d2] => { results := [.lit (.bool true)], args := [d1, d2] }
  | _ => none }
def treeEmptiesRow : OpenClaim := { program := "ytmklapbecdhnmaa", sum := "ec9ef9a11c8ca36db20c7e1aa2522ff48304c10d9a7911672b6329f51d1be0c5", func := "emendator/emendatorlaw02.TreeEmpties", spec := "treeEmpties", inPlace := ["slices.overlaps[string]", "slices.overlaps[int]"], unfollowed := true, recurses := true, apart := false }
def TreeEmptiesSaid : Prop := treeEmptiesRow.holds Try.pinned (OpenSpec.ofChange treeEmptiesSpec)

/-- ITS FALSE NEIGHBOUR: 'it returns false'. Refute it at one input. -/
def treeEmptiesWrong : ChangeSpec := { name := "treeEmpties", fn := fun _ => fun
  | [d1, d2] => { results := [.lit (.bool false)], args := [d1, d2] }
  | _ => none }
def TreeEmptiesWrongFalsely : Prop := treeEmptiesRow.holds Try.pinned (OpenSpec.ofChange treeEmptiesWrong)

/-- 'emendatorlaw02.TreeShape': WHATEVER THE INPUT: true; the input reads as it did. -/
def treeShapeSpec : ChangeSpec := { name := "treeShape", fn := fun _ => fun
  | [d1, d2] => { results := [.lit (.bool true)], args := [d1, d2] }
  | _ => none }
def treeShapeRow : OpenClaim := { program := "ytmklapbecdhnmaa", sum := "ec9ef9a11c8ca36db20c7e1aa2522ff48304c10d9a7911672b6329f51d1be0c5", func := "emendator/emendatorlaw02.TreeShape", spec := "treeShape", inPlace := ["slices.overlaps[string]", "slices.overlaps[int]"], unfollowed := true, recurses := true, apart := false }
def TreeShapeSaid : Prop := treeShapeRow.holds Try.pinned (OpenSpec.ofChange treeShapeSpec)

/-- ITS FALSE NEIGHBOUR: 'it returns false'. Refute it at one input. -/
def treeShapeWrong : ChangeSpec := { name := "treeShape", fn := fun _ => fun
  | [d1, d2] => { results := [.lit (.bool false)], args := [d1, d2] }
  | _ => none }
def TreeShapeWrongFalsely : Prop := treeShapeRow.holds Try.pinned (OpenSpec.ofChange treeShapeWrong)

/-- 'emendatorlaw02.TreeSplits': WHATEVER THE INPUT: true; the input reads as it did. -/
def treeSplitsSpec : ChangeSpec := { name := "treeSplits", fn := fun _ => fun
  | [d1, d2, d3, d4] => { results := [.lit (.bool true)], args := [d1, d2, d3, d4] }
  | _ => none }
def treeSplitsRow : OpenClaim := { program := "ytmklapbecdhnmaa", sum := "ec9ef9a11c8ca36db20c7e1aa2522ff48304c10d9a7911672b6329f51d1be0c5", func := "emendator/emendatorlaw02.TreeSplits", spec := "treeSplits", inPlace := ["slices.overlaps[string]", "slices.overlaps[int]"], unfollowed := true, recurses := true, apart := false }
def TreeSplitsSaid : Prop := treeSplitsRow.holds Try.pinned (OpenSpec.ofChange treeSplitsSpec)

/-- ITS FALSE NEIGHBOUR: 'it returns false'. Refute it at one input. -/
def treeSplitsWrong : ChangeSpec := { name := "treeSplits", fn := fun _ => fun
  | [d1, d2, d3, d4] => { results := [.lit (.bool false)], args := [d1, d2, d3, d4] }
  | _ => none }
def TreeSplitsWrongFalsely : Prop := treeSplitsRow.holds Try.pinned (OpenSpec.ofChange treeSplitsWrong)

/-- 'emendatorlaw02.TreeOwn': WHATEVER THE INPUT: true; the input reads as it did. -/
def treeOwnSpec : ChangeSpec := { name := "treeOwn", fn := fun _ => fun
  | [d1, d2] => { results := [.lit (.bool true)], args := [d1, d2] }
  | _ => none }
def treeOwnRow : OpenClaim := { program := "ytmklapbecdhnmaa", sum := "ec9ef9a11c8ca36db20c7e1aa2522ff48304c10d9a7911672b6329f51d1be0c5", func := "emendator/emendatorlaw02.TreeOwn", spec := "treeOwn", inPlace := ["slices.overlaps[string]", "slices.overlaps[int]"], unfollowed := true, recurses := true, apart := false }
def TreeOwnSaid : Prop := treeOwnRow.holds Try.pinned (OpenSpec.ofChange treeOwnSpec)

/-- ITS FALSE NEIGHBOUR: 'it returns false'. Refute it at one input. -/
def treeOwnWrong : ChangeSpec := { name := "treeOwn", fn := fun _ => fun
  | [d1, d2] => { results := [.lit (.bool false)], args := [d1, d2] }
  | _ => none }
def TreeOwnWrongFalsely : Prop := treeOwnRow.holds Try.pinned (OpenSpec.ofChange treeOwnWrong)

/-- 'emendatorlaw02.TreeDoes': WHATEVER THE INPUT: true; the input reads as it did. -/
def treeDoesSpec : ChangeSpec := { name := "treeDoes", fn := fun _ => fun
  | [d1, d2] => { results := [.lit (.bool true)], args := [d1, d2] }
  | _ => none }
def treeDoesRow : OpenClaim := { program := "ytmklapbecdhnmaa", sum := "ec9ef9a11c8ca36db20c7e1aa2522ff48304c10d9a7911672b6329f51d1be0c5", func := "emendator/emendatorlaw02.TreeDoes", spec := "treeDoes", inPlace := ["slices.overlaps[string]", "slices.overlaps[int]"], unfollowed := true, recurses := true, apart := false }
def TreeDoesSaid : Prop := treeDoesRow.holds Try.pinned (OpenSpec.ofChange treeDoesSpec)

/-- ITS FALSE NEIGHBOUR: 'it returns false'. Refute it at one input. -/
def treeDoesWrong : ChangeSpec := { name := "treeDoes", fn := fun _ => fun
  | [d1, d2] => { results := [.lit (.bool false)], args := [d1, d2] }
  | _ => none }
def TreeDoesWrongFalsely : Prop := treeDoesRow.holds Try.pinned (OpenSpec.ofChange treeDoesWrong)

/- THE SECOND FORM. 'bulk': how many values and letters a reading holds, each counted each time it is reached (what is shared counts as often as it is met; a slice's spare places count too). A statement '..UptoSaid' is the law's where the arguments, and the package variables that the reading takes, are together of bulk at most 1048576: NARROWER than '..Said'. Prove '..Said' where nothing that the law and all that it calls make is longer than what came in: it says more and counts as full. Else prove '..UptoSaid'. A law counts once. -/
mutual
def uptoBulk {H : Type} : DataW H → Nat
  | .lit (.string bytes) => bytes.length + 1
  | .lit _ => 1
  | .nil => 1
  | .ptr d => uptoBulk d + 1
  | .slice elems spare => uptoBulkAll elems + uptoBulkAll spare + 1
  | .agg parts => uptoBulkAll parts + 1
  | .iface _ d => uptoBulk d + 1
  | .map entries => uptoBulkEntries entries + 1
  | .held _ => 1
def uptoBulkAll {H : Type} : List (DataW H) → Nat
  | [] => 0
  | d :: r => uptoBulk d + uptoBulkAll r
def uptoBulkEntries {H : Type} : List (Lit × DataW H) → Nat
  | [] => 0
  | x :: r => uptoBulkEntry x + uptoBulkEntries r
def uptoBulkEntry {H : Type} : Lit × DataW H → Nat
  | (.string bytes, d) => bytes.length + uptoBulk d + 1
  | (_, d) => uptoBulk d + 1
 end
def uptoSmall : (H : Type) → List (DataW H) → Bool := fun _ ds => decide (uptoBulkAll ds ≤ 1048576)
def OpenSpec.upto (s : _root_.Go.ChangeSpec) : _root_.Go.OpenSpec := { _root_.Go.OpenSpec.ofChange s with cond := some uptoSmall }

/-- 'emendatorlaw02.TreeGrows', WHERE WHAT IT READS IS OF BULK AT MOST 1048576: true; the input reads as it did. -/
def treeGrowsUptoRow : OpenClaim := { program := "ytmklapbecdhnmaa", sum := "ec9ef9a11c8ca36db20c7e1aa2522ff48304c10d9a7911672b6329f51d1be0c5", func := "emendator/emendatorlaw02.TreeGrows", spec := "treeGrows", inPlace := ["slices.overlaps[string]", "slices.overlaps[int]"], recurses := true, apart := false, narrowed := true }
def TreeGrowsUptoSaid : Prop := treeGrowsUptoRow.holds Try.pinned (OpenSpec.upto treeGrowsSpec)

/-- 'emendatorlaw02.TreeParts', WHERE WHAT IT READS IS OF BULK AT MOST 1048576: true; the input reads as it did. -/
def treePartsUptoRow : OpenClaim := { program := "ytmklapbecdhnmaa", sum := "ec9ef9a11c8ca36db20c7e1aa2522ff48304c10d9a7911672b6329f51d1be0c5", func := "emendator/emendatorlaw02.TreeParts", spec := "treeParts", inPlace := ["slices.overlaps[string]", "slices.overlaps[int]"], recurses := true, apart := false, narrowed := true }
def TreePartsUptoSaid : Prop := treePartsUptoRow.holds Try.pinned (OpenSpec.upto treePartsSpec)

/-- 'emendatorlaw02.TreeEmpties', WHERE WHAT IT READS IS OF BULK AT MOST 1048576: true; the input reads as it did. -/
def treeEmptiesUptoRow : OpenClaim := { program := "ytmklapbecdhnmaa", sum := "ec9ef9a11c8ca36db20c7e1aa2522ff48304c10d9a7911672b6329f51d1be0c5", func := "emendator/emendatorlaw02.TreeEmpties", spec := "treeEmpties", inPlace := ["slices.overlaps[string]", "slices.overlaps[int]"], unfollowed := true, recurses := true, apart := false, narrowed := true }
def TreeEmptiesUptoSaid : Prop := treeEmptiesUptoRow.holds Try.pinned (OpenSpec.upto treeEmptiesSpec)

/-- 'emendatorlaw02.TreeShape', WHERE WHAT IT READS IS OF BULK AT MOST 1048576: true; the input reads as it did. -/
def treeShapeUptoRow : OpenClaim := { program := "ytmklapbecdhnmaa", sum := "ec9ef9a11c8ca36db20c7e1aa2522ff48304c10d9a7911672b6329f51d1be0c5", func := "emendator/emendatorlaw02.TreeShape", spec := "treeShape", inPlace := ["slices.overlaps[string]", "slices.overlaps[int]"], unfollowed := true, recurses := true, apart := false, narrowed := true }
def TreeShapeUptoSaid : Prop := treeShapeUptoRow.holds Try.pinned (OpenSpec.upto treeShapeSpec)

/-- 'emendatorlaw02.TreeSplits', WHERE WHAT IT READS IS OF BULK AT MOST 1048576: true; the input reads as it did. -/
def treeSplitsUptoRow : OpenClaim := { program := "ytmklapbecdhnmaa", sum := "ec9ef9a11c8ca36db20c7e1aa2522ff48304c10d9a7911672b6329f51d1be0c5", func := "emendator/emendatorlaw02.TreeSplits", spec := "treeSplits", inPlace := ["slices.overlaps[string]", "slices.overlaps[int]"], unfollowed := true, recurses := true, apart := false, narrowed := true }
def TreeSplitsUptoSaid : Prop := treeSplitsUptoRow.holds Try.pinned (OpenSpec.upto treeSplitsSpec)

/-- 'emendatorlaw02.TreeOwn', WHERE WHAT IT READS IS OF BULK AT MOST 1048576: true; the input reads as it did. -/
def treeOwnUptoRow : OpenClaim := { program := "ytmklapbecdhnmaa", sum := "ec9ef9a11c8ca36db20c7e1aa2522ff48304c10d9a7911672b6329f51d1be0c5", func := "emendator/emendatorlaw02.TreeOwn", spec := "treeOwn", inPlace := ["slices.overlaps[string]", "slices.overlaps[int]"], unfollowed := true, recurses := true, apart := false, narrowed := true }
def TreeOwnUptoSaid : Prop := treeOwnUptoRow.holds Try.pinned (OpenSpec.upto treeOwnSpec)

/-- 'emendatorlaw02.TreeDoes', WHERE WHAT IT READS IS OF BULK AT MOST 1048576: true; the input reads as it did. -/
def treeDoesUptoRow : OpenClaim := { program := "ytmklapbecdhnmaa", sum := "ec9ef9a11c8ca36db20c7e1aa2522ff48304c10d9a7911672b6329f51d1be0c5", func := "emendator/emendatorlaw02.TreeDoes", spec := "treeDoes", inPlace := ["slices.overlaps[string]", "slices.overlaps[int]"], unfollowed := true, recurses := true, apart := false, narrowed := true }
def TreeDoesUptoSaid : Prop := treeDoesUptoRow.holds Try.pinned (OpenSpec.upto treeDoesSpec)

end Rows
end Go.Proofs.Ytmklapbecdhnmaa
