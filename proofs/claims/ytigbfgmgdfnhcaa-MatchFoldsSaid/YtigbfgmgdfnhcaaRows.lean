/-
  No cell of these rows narrows 'for every input' (looked for: loops, veiled, ifaces, maps, wideKeys, modest, calm, conditions, laid).
  DERIVED. THE GIVEN ROWS OF THIS SEAT. 11 by the template 'for every input the law returns true; each argument reads behind the call as it read before'; 0 by the template 'total and deterministic' (their statements: YtigbfgmgdfnhcaaTotals.lean).
  GIVEN WITH THE SEED: the statements are not yours to turn. If you find one false, say at which input.
  Laid BY PROGRAM, IN A SANDBOX (cutbox-rows.mjs): the forced cells as the released guide's own fill.sh prints them over the translation 468a25ff6779b4cd… (all of the seat's roots in one cut). By AI agents, Wed Nov 11 2026. No macro, syntax, notation, axiom, sorry.
-/
import Derived.Test.YtigbfgmgdfnhcaaChecked
import GoSem.Claim
import GoSem.ClaimJoined
import GoSem.ClaimMapViews
import Derived.JoinedTies
import Derived.KernelRfl
namespace Go.Proofs.Ytigbfgmgdfnhcaa
/- THE CELL 'sum', in the pinned program and in every row, IS THE sha256 OF THE DUMP (.gsa) THAT YtigbfgmgdfnhcaaProg.lean LOADS. Nothing in Lean hashes anything: it is a label: what it is worth is what the hold of that sum in a sandbox is worth. -/
noncomputable def Try.pinned : Pinned := { name := "ytigbfgmgdfnhcaa", sum := "468a25ff6779b4cdad732c64a08010bf68ff4fea0eb84d4d35de0adb7b146a5d", checked := Try.checked }
namespace Rows
def none {H : Type} : Left H := { results := [], args := [] }

/-- 'emendatorlaw05.MatchGreedy': WHATEVER THE INPUT: true; the input reads as it did. -/
def matchGreedySpec : ChangeSpec := { name := "matchGreedy", fn := fun _ => fun
  | [d1, d2, d3, d4] => { results := [.lit (.bool true)], args := [d1, d2, d3, d4] }
  | _ => none }
def matchGreedyRow : OpenClaim := { program := "ytigbfgmgdfnhcaa", sum := "468a25ff6779b4cdad732c64a08010bf68ff4fea0eb84d4d35de0adb7b146a5d", func := "emendator/emendatorlaw05.MatchGreedy", spec := "matchGreedy", unfollowed := true, recurses := true, apart := false }
def MatchGreedySaid : Prop := matchGreedyRow.holds Try.pinned (OpenSpec.ofChange matchGreedySpec)

/-- ITS FALSE NEIGHBOUR: 'it returns false'. Refute it at one input. -/
def matchGreedyWrong : ChangeSpec := { name := "matchGreedy", fn := fun _ => fun
  | [d1, d2, d3, d4] => { results := [.lit (.bool false)], args := [d1, d2, d3, d4] }
  | _ => none }
def MatchGreedyWrongFalsely : Prop := matchGreedyRow.holds Try.pinned (OpenSpec.ofChange matchGreedyWrong)

/-- 'emendatorlaw05.MatchTwins': WHATEVER THE INPUT: true; the input reads as it did. -/
def matchTwinsSpec : ChangeSpec := { name := "matchTwins", fn := fun _ => fun
  | [d1, d2, d3] => { results := [.lit (.bool true)], args := [d1, d2, d3] }
  | _ => none }
def matchTwinsRow : OpenClaim := { program := "ytigbfgmgdfnhcaa", sum := "468a25ff6779b4cdad732c64a08010bf68ff4fea0eb84d4d35de0adb7b146a5d", func := "emendator/emendatorlaw05.MatchTwins", spec := "matchTwins", unfollowed := true, recurses := true, apart := false }
def MatchTwinsSaid : Prop := matchTwinsRow.holds Try.pinned (OpenSpec.ofChange matchTwinsSpec)

/-- ITS FALSE NEIGHBOUR: 'it returns false'. Refute it at one input. -/
def matchTwinsWrong : ChangeSpec := { name := "matchTwins", fn := fun _ => fun
  | [d1, d2, d3] => { results := [.lit (.bool false)], args := [d1, d2, d3] }
  | _ => none }
def MatchTwinsWrongFalsely : Prop := matchTwinsRow.holds Try.pinned (OpenSpec.ofChange matchTwinsWrong)

/-- 'emendatorlaw05.MatchWords': WHATEVER THE INPUT: true; the input reads as it did. -/
def matchWordsSpec : ChangeSpec := { name := "matchWords", fn := fun _ => fun
  | [d1, d2] => { results := [.lit (.bool true)], args := [d1, d2] }
  | _ => none }
def matchWordsRow : OpenClaim := { program := "ytigbfgmgdfnhcaa", sum := "468a25ff6779b4cdad732c64a08010bf68ff4fea0eb84d4d35de0adb7b146a5d", func := "emendator/emendatorlaw05.MatchWords", spec := "matchWords", unfollowed := true, recurses := true, apart := false }
def MatchWordsSaid : Prop := matchWordsRow.holds Try.pinned (OpenSpec.ofChange matchWordsSpec)

/-- ITS FALSE NEIGHBOUR: 'it returns false'. Refute it at one input. -/
def matchWordsWrong : ChangeSpec := { name := "matchWords", fn := fun _ => fun
  | [d1, d2] => { results := [.lit (.bool false)], args := [d1, d2] }
  | _ => none }
def MatchWordsWrongFalsely : Prop := matchWordsRow.holds Try.pinned (OpenSpec.ofChange matchWordsWrong)

/-- 'emendatorlaw05.MatchAny': WHATEVER THE INPUT: true; the input reads as it did. -/
def matchAnySpec : ChangeSpec := { name := "matchAny", fn := fun _ => fun
  | [d1, d2, d3, d4] => { results := [.lit (.bool true)], args := [d1, d2, d3, d4] }
  | _ => none }
def matchAnyRow : OpenClaim := { program := "ytigbfgmgdfnhcaa", sum := "468a25ff6779b4cdad732c64a08010bf68ff4fea0eb84d4d35de0adb7b146a5d", func := "emendator/emendatorlaw05.MatchAny", spec := "matchAny", unfollowed := true, recurses := true, apart := false }
def MatchAnySaid : Prop := matchAnyRow.holds Try.pinned (OpenSpec.ofChange matchAnySpec)

/-- ITS FALSE NEIGHBOUR: 'it returns false'. Refute it at one input. -/
def matchAnyWrong : ChangeSpec := { name := "matchAny", fn := fun _ => fun
  | [d1, d2, d3, d4] => { results := [.lit (.bool false)], args := [d1, d2, d3, d4] }
  | _ => none }
def MatchAnyWrongFalsely : Prop := matchAnyRow.holds Try.pinned (OpenSpec.ofChange matchAnyWrong)

/-- 'emendatorlaw05.MatchEdges': WHATEVER THE INPUT: true; the input reads as it did. -/
def matchEdgesSpec : ChangeSpec := { name := "matchEdges", fn := fun _ => fun
  | [d1, d2] => { results := [.lit (.bool true)], args := [d1, d2] }
  | _ => none }
def matchEdgesRow : OpenClaim := { program := "ytigbfgmgdfnhcaa", sum := "468a25ff6779b4cdad732c64a08010bf68ff4fea0eb84d4d35de0adb7b146a5d", func := "emendator/emendatorlaw05.MatchEdges", spec := "matchEdges", unfollowed := true, recurses := true, apart := false }
def MatchEdgesSaid : Prop := matchEdgesRow.holds Try.pinned (OpenSpec.ofChange matchEdgesSpec)

/-- ITS FALSE NEIGHBOUR: 'it returns false'. Refute it at one input. -/
def matchEdgesWrong : ChangeSpec := { name := "matchEdges", fn := fun _ => fun
  | [d1, d2] => { results := [.lit (.bool false)], args := [d1, d2] }
  | _ => none }
def MatchEdgesWrongFalsely : Prop := matchEdgesRow.holds Try.pinned (OpenSpec.ofChange matchEdgesWrong)

/-- 'emendatorlaw05.MatchClass': WHATEVER THE INPUT: true; the input reads as it did. -/
def matchClassSpec : ChangeSpec := { name := "matchClass", fn := fun _ => fun
  | [d1, d2] => { results := [.lit (.bool true)], args := [d1, d2] }
  | _ => none }
def matchClassRow : OpenClaim := { program := "ytigbfgmgdfnhcaa", sum := "468a25ff6779b4cdad732c64a08010bf68ff4fea0eb84d4d35de0adb7b146a5d", func := "emendator/emendatorlaw05.MatchClass", spec := "matchClass", unfollowed := true, recurses := true, apart := false }
def MatchClassSaid : Prop := matchClassRow.holds Try.pinned (OpenSpec.ofChange matchClassSpec)

/-- ITS FALSE NEIGHBOUR: 'it returns false'. Refute it at one input. -/
def matchClassWrong : ChangeSpec := { name := "matchClass", fn := fun _ => fun
  | [d1, d2] => { results := [.lit (.bool false)], args := [d1, d2] }
  | _ => none }
def MatchClassWrongFalsely : Prop := matchClassRow.holds Try.pinned (OpenSpec.ofChange matchClassWrong)

/-- 'emendatorlaw05.MatchFolds': WHATEVER THE INPUT: true; the input reads as it did. -/
def matchFoldsSpec : ChangeSpec := { name := "matchFolds", fn := fun _ => fun
  | [d1, d2] => { results := [.lit (.bool true)], args := [d1, d2] }
  | _ => none }
def matchFoldsRow : OpenClaim := { program := "ytigbfgmgdfnhcaa", sum := "468a25ff6779b4cdad732c64a08010bf68ff4fea0eb84d4d35de0adb7b146a5d", func := "emendator/emendatorlaw05.MatchFolds", spec := "matchFolds", unfollowed := true, recurses := true, apart := false }
def MatchFoldsSaid : Prop := matchFoldsRow.holds Try.pinned (OpenSpec.ofChange matchFoldsSpec)

/-- ITS FALSE NEIGHBOUR: 'it returns false'. Refute it at one input. -/
def matchFoldsWrong : ChangeSpec := { name := "matchFolds", fn := fun _ => fun
  | [d1, d2] => { results := [.lit (.bool false)], args := [d1, d2] }
  | _ => none }
def MatchFoldsWrongFalsely : Prop := matchFoldsRow.holds Try.pinned (OpenSpec.ofChange matchFoldsWrong)

/-- 'emendatorlaw05.MatchTries': WHATEVER THE INPUT: true; the input reads as it did. -/
def matchTriesSpec : ChangeSpec := { name := "matchTries", fn := fun _ => fun
  | [d1, d2, d3, d4, d5] => { results := [.lit (.bool true)], args := [d1, d2, d3, d4, d5] }
  | _ => none }
def matchTriesRow : OpenClaim := { program := "ytigbfgmgdfnhcaa", sum := "468a25ff6779b4cdad732c64a08010bf68ff4fea0eb84d4d35de0adb7b146a5d", func := "emendator/emendatorlaw05.MatchTries", spec := "matchTries", unfollowed := true, recurses := true, apart := false }
def MatchTriesSaid : Prop := matchTriesRow.holds Try.pinned (OpenSpec.ofChange matchTriesSpec)

/-- ITS FALSE NEIGHBOUR: 'it returns false'. Refute it at one input. -/
def matchTriesWrong : ChangeSpec := { name := "matchTries", fn := fun _ => fun
  | [d1, d2, d3, d4, d5] => { results := [.lit (.bool false)], args := [d1, d2, d3, d4, d5] }
  | _ => none }
def MatchTriesWrongFalsely : Prop := matchTriesRow.holds Try.pinned (OpenSpec.ofChange matchTriesWrong)

/-- 'emendatorlaw05.MatchBounds': WHATEVER THE INPUT: true; the input reads as it did. -/
def matchBoundsSpec : ChangeSpec := { name := "matchBounds", fn := fun _ => fun
  | [d1, d2, d3, d4, d5, d6] => { results := [.lit (.bool true)], args := [d1, d2, d3, d4, d5, d6] }
  | _ => none }
def matchBoundsRow : OpenClaim := { program := "ytigbfgmgdfnhcaa", sum := "468a25ff6779b4cdad732c64a08010bf68ff4fea0eb84d4d35de0adb7b146a5d", func := "emendator/emendatorlaw05.MatchBounds", spec := "matchBounds", unfollowed := true, recurses := true, apart := false }
def MatchBoundsSaid : Prop := matchBoundsRow.holds Try.pinned (OpenSpec.ofChange matchBoundsSpec)

/-- ITS FALSE NEIGHBOUR: 'it returns false'. Refute it at one input. -/
def matchBoundsWrong : ChangeSpec := { name := "matchBounds", fn := fun _ => fun
  | [d1, d2, d3, d4, d5, d6] => { results := [.lit (.bool false)], args := [d1, d2, d3, d4, d5, d6] }
  | _ => none }
def MatchBoundsWrongFalsely : Prop := matchBoundsRow.holds Try.pinned (OpenSpec.ofChange matchBoundsWrong)

/-- 'emendatorlaw05.MatchPlain': WHATEVER THE INPUT: true; the input reads as it did. -/
def matchPlainSpec : ChangeSpec := { name := "matchPlain", fn := fun _ => fun
  | [d1, d2] => { results := [.lit (.bool true)], args := [d1, d2] }
  | _ => none }
def matchPlainRow : OpenClaim := { program := "ytigbfgmgdfnhcaa", sum := "468a25ff6779b4cdad732c64a08010bf68ff4fea0eb84d4d35de0adb7b146a5d", func := "emendator/emendatorlaw05.MatchPlain", spec := "matchPlain", unfollowed := true, recurses := true, apart := false }
def MatchPlainSaid : Prop := matchPlainRow.holds Try.pinned (OpenSpec.ofChange matchPlainSpec)

/-- ITS FALSE NEIGHBOUR: 'it returns false'. Refute it at one input. -/
def matchPlainWrong : ChangeSpec := { name := "matchPlain", fn := fun _ => fun
  | [d1, d2] => { results := [.lit (.bool false)], args := [d1, d2] }
  | _ => none }
def MatchPlainWrongFalsely : Prop := matchPlainRow.holds Try.pinned (OpenSpec.ofChange matchPlainWrong)

/-- 'emendatorlaw05.MatchLeast': WHATEVER THE INPUT: true; the input reads as it did. -/
def matchLeastSpec : ChangeSpec := { name := "matchLeast", fn := fun _ => fun
  | [d1, d2, d3] => { results := [.lit (.bool true)], args := [d1, d2, d3] }
  | _ => none }
def matchLeastRow : OpenClaim := { program := "ytigbfgmgdfnhcaa", sum := "468a25ff6779b4cdad732c64a08010bf68ff4fea0eb84d4d35de0adb7b146a5d", func := "emendator/emendatorlaw05.MatchLeast", spec := "matchLeast", unfollowed := true, recurses := true, apart := false }
def MatchLeastSaid : Prop := matchLeastRow.holds Try.pinned (OpenSpec.ofChange matchLeastSpec)

/-- ITS FALSE NEIGHBOUR: 'it returns false'. Refute it at one input. -/
def matchLeastWrong : ChangeSpec := { name := "matchLeast", fn := fun _ => fun
  | [d1, d2, d3] => { results := [.lit (.bool false)], args := [d1, d2, d3] }
  | _ => none }
def MatchLeastWrongFalsely : Prop := matchLeastRow.holds Try.pinned (OpenSpec.ofChange matchLeastWrong)

/- THE SECOND FORM. 'bulk': how many values and letters a reading holds, each counted each time it is reached (what is shared counts as often as it is met; a slice's spare places count too). A statement '..UptoSaid' is the law's where the arguments, and the package variables that the reading takes, are together of bulk at most 1048576: NARROWER than '..Said'. Prove '..Said' where nothing that the law and all that it calls make is longer than what came in: it says more and counts as full. Else prove '..UptoSaid'. A law counts once. -/
mutual
def uptoBulk {H : Type} : DataW H → Nat
  | .lit (.string bytes) => bytes.length + 1
  | .lit _ => 1
  | .nil => 1
  | .ptr d => uptoBulk d + 1
  | .slice elems spare => uptoBulkAll elems + uptoBulkAll spare + 1
  | .agg parts => uptoBulkAll parts + 1
  | .iface _ d => uptoBulk d + 1
  | .map entries => uptoBulkEntries entries + 1
  | .held _ => 1
def uptoBulkAll {H : Type} : List (DataW H) → Nat
  | [] => 0
  | d :: r => uptoBulk d + uptoBulkAll r
def uptoBulkEntries {H : Type} : List (Lit × DataW H) → Nat
  | [] => 0
  | x :: r => uptoBulkEntry x + uptoBulkEntries r
def uptoBulkEntry {H : Type} : Lit × DataW H → Nat
  | (.string bytes, d) => bytes.length + uptoBulk d + 1
  | (_, d) => uptoBulk d + 1
 end
def uptoSmall : (H : Type) → List (DataW H) → Bool := fun _ ds => decide (uptoBulkAll ds ≤ 1048576)
def OpenSpec.upto (s : _root_.Go.ChangeSpec) : _root_.Go.OpenSpec := { _root_.Go.OpenSpec.ofChange s with cond := some uptoSmall }

/-- 'emendatorlaw05.MatchGreedy', WHERE WHAT IT READS IS OF BULK AT MOST 1048576: true; the input reads as it did. -/
def matchGreedyUptoRow : OpenClaim := { program := "ytigbfgmgdfnhcaa", sum := "468a25ff6779b4cdad732c64a08010bf68ff4fea0eb84d4d35de0adb7b146a5d", func := "emendator/emendatorlaw05.MatchGreedy", spec := "matchGreedy", unfollowed := true, recurses := true, apart := false, narrowed := true }
def MatchGreedyUptoSaid : Prop := matchGreedyUptoRow.holds Try.pinned (OpenSpec.upto matchGreedySpec)

/-- 'emendatorlaw05.MatchTwins', WHERE WHAT IT READS IS OF BULK AT MOST 1048576: true; the input reads as it did. -/
def matchTwinsUptoRow : OpenClaim := { program := "ytigbfgmgdfnhcaa", sum := "468a25ff6779b4cdad732c64a08010bf68ff4fea0eb84d4d35de0adb7b146a5d", func := "emendator/emendatorlaw05.MatchTwins", spec := "matchTwins", unfollowed := true, recurses := true, apart := false, narrowed := true }
def MatchTwinsUptoSaid : Prop := matchTwinsUptoRow.holds Try.pinned (OpenSpec.upto matchTwinsSpec)

/-- 'emendatorlaw05.MatchWords', WHERE WHAT IT READS IS OF BULK AT MOST 1048576: true; the input reads as it did. -/
def matchWordsUptoRow : OpenClaim := { program := "ytigbfgmgdfnhcaa", sum := "468a25ff6779b4cdad732c64a08010bf68ff4fea0eb84d4d35de0adb7b146a5d", func := "emendator/emendatorlaw05.MatchWords", spec := "matchWords", unfollowed := true, recurses := true, apart := false, narrowed := true }
def MatchWordsUptoSaid : Prop := matchWordsUptoRow.holds Try.pinned (OpenSpec.upto matchWordsSpec)

/-- 'emendatorlaw05.MatchAny', WHERE WHAT IT READS IS OF BULK AT MOST 1048576: true; the input reads as it did. -/
def matchAnyUptoRow : OpenClaim := { program := "ytigbfgmgdfnhcaa", sum := "468a25ff6779b4cdad732c64a08010bf68ff4fea0eb84d4d35de0adb7b146a5d", func := "emendator/emendatorlaw05.MatchAny", spec := "matchAny", unfollowed := true, recurses := true, apart := false, narrowed := true }
def MatchAnyUptoSaid : Prop := matchAnyUptoRow.holds Try.pinned (OpenSpec.upto matchAnySpec)

/-- 'emendatorlaw05.MatchEdges', WHERE WHAT IT READS IS OF BULK AT MOST 1048576: true; the input reads as it did. -/
def matchEdgesUptoRow : OpenClaim := { program := "ytigbfgmgdfnhcaa", sum := "468a25ff6779b4cdad732c64a08010bf68ff4fea0eb84d4d35de0adb7b146a5d", func := "emendator/emendatorlaw05.MatchEdges", spec := "matchEdges", unfollowed := true, recurses := true, apart := false, narrowed := true }
def MatchEdgesUptoSaid : Prop := matchEdgesUptoRow.holds Try.pinned (OpenSpec.upto matchEdgesSpec)

/-- 'emendatorlaw05.MatchClass', WHERE WHAT IT READS IS OF BULK AT MOST 1048576: true; the input reads as it did. -/
def matchClassUptoRow : OpenClaim := { program := "ytigbfgmgdfnhcaa", sum := "468a25ff6779b4cdad732c64a08010bf68ff4fea0eb84d4d35de0adb7b146a5d", func := "emendator/emendatorlaw05.MatchClass", spec := "matchClass", unfollowed := true, recurses := true, apart := false, narrowed := true }
def MatchClassUptoSaid : Prop := matchClassUptoRow.holds Try.pinned (OpenSpec.upto matchClassSpec)

/-- 'emendatorlaw05.MatchFolds', WHERE WHAT IT READS IS OF BULK AT MOST 1048576: true; the input reads as it did. -/
def matchFoldsUptoRow : OpenClaim := { program := "ytigbfgmgdfnhcaa", sum := "468a25ff6779b4cdad732c64a08010bf68ff4fea0eb84d4d35de0adb7b146a5d", func := "emendator/emendatorlaw05.MatchFolds", spec := "matchFolds", unfollowed := true, recurses := true, apart := false, narrowed := true }
def MatchFoldsUptoSaid : Prop := matchFoldsUptoRow.holds Try.pinned (OpenSpec.upto matchFoldsSpec)

/-- 'emendatorlaw05.MatchTries', WHERE WHAT IT READS IS OF BULK AT MOST 1048576: true; the input reads as it did. -/
def matchTriesUptoRow : OpenClaim := { program := "ytigbfgmgdfnhcaa", sum := "468a25ff6779b4cdad732c64a08010bf68ff4fea0eb84d4d35de0adb7b146a5d", func := "emendator/emendatorlaw05.MatchTries", spec := "matchTries", unfollowed := true, recurses := true, apart := false, narrowed := true }
def MatchTriesUptoSaid : Prop := matchTriesUptoRow.holds Try.pinned (OpenSpec.upto matchTriesSpec)

/-- 'emendatorlaw05.MatchBounds', WHERE WHAT IT READS IS OF BULK AT MOST 1048576: true; the input reads as it did. -/
def matchBoundsUptoRow : OpenClaim := { program := "ytigbfgmgdfnhcaa", sum := "468a25ff6779b4cdad732c64a08010bf68ff4fea0eb84d4d35de0adb7b146a5d", func := "emendator/emendatorlaw05.MatchBounds", spec := "matchBounds", unfollowed := true, recurses := true, apart := false, narrowed := true }
def MatchBoundsUptoSaid : Prop := matchBoundsUptoRow.holds Try.pinned (OpenSpec.upto matchBoundsSpec)

/-- 'emendatorlaw05.MatchPlain', WHERE WHAT IT READS IS OF BULK AT MOST 1048576: true; the input reads as it did. -/
def matchPlainUptoRow : OpenClaim := { program := "ytigbfgmgdfnhcaa", sum := "468a25ff6779b4cdad732c64a08010bf68ff4fea0eb84d4d35de0adb7b146a5d", func := "emendator/emendatorlaw05.MatchPlain", spec := "matchPlain", unfollowed := true, recurses := true, apart := false, narrowed := true }
def MatchPlainUptoSaid : Prop := matchPlainUptoRow.holds Try.pinned (OpenSpec.upto matchPlainSpec)

/-- 'emendatorlaw05.MatchLeast', WHERE WHAT IT READS IS OF BULK AT MOST 1048576: true; the input reads as it did. -/
def matchLeastUptoRow : OpenClaim := { program := "ytigbfgmgdfnhcaa", sum := "468a25ff6779b4cdad732c64a08010bf68ff4fea0eb84d4d35de0adb7b146a5d", func := "emendator/emendatorlaw05.MatchLeast", spec := "matchLeast", unfollowed := true, recurses := true, apart := false, narrowed := true }
def MatchLeastUptoSaid : Prop := matchLeastUptoRow.holds Try.pinned (OpenSpec.upto matchLeastSpec)

end Rows
end Go.Proofs.Ytigbfgmgdfnhcaa
