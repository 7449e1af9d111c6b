/-
  No cell of these rows narrows 'for every input' (looked for: loops, veiled, ifaces, maps, wideKeys, modest, calm, conditions, laid).
  DERIVED. THE GIVEN ROWS OF THIS SEAT. 10 by the template 'for every input the law returns true; each argument reads behind the call as it read before'; 0 by the template 'total and deterministic' (their statements: YtemnppfdoicmpaaTotals.lean).
  GIVEN WITH THE SEED: the statements are not yours to turn. If you find one false, say at which input.
  Laid BY PROGRAM, IN A SANDBOX (cutbox-rows.mjs): the forced cells as the released guide's own fill.sh prints them over the translation 18246151d4b50023… (all of the seat's roots in one cut). By AI agents, Wed Nov 11 2026. No macro, syntax, notation, axiom, sorry.
-/
import Derived.Test.YtemnppfdoicmpaaChecked
import GoSem.Claim
import GoSem.ClaimJoined
import GoSem.ClaimMapViews
import Derived.JoinedTies
import Derived.KernelRfl
namespace Go.Proofs.Ytemnppfdoicmpaa
/- THE CELL 'sum', in the pinned program and in every row, IS THE sha256 OF THE DUMP (.gsa) THAT YtemnppfdoicmpaaProg.lean LOADS. Nothing in Lean hashes anything: it is a label: what it is worth is what the hold of that sum in a sandbox is worth. -/
noncomputable def Try.pinned : Pinned := { name := "ytemnppfdoicmpaa", sum := "18246151d4b50023d200c41fe41d6b5ac51ce3373bfe65444c33fd80e4bd4620", checked := Try.checked }
namespace Rows
def none {H : Type} : Left H := { results := [], args := [] }

/-- 'emendatorlaw01.KindWords': WHATEVER THE INPUT: true; the input reads as it did. -/
def kindWordsSpec : ChangeSpec := { name := "kindWords", fn := fun _ => fun
  | [d] => { results := [.lit (.bool true)], args := [d] }
  | _ => none }
def kindWordsRow : OpenClaim := { program := "ytemnppfdoicmpaa", sum := "18246151d4b50023d200c41fe41d6b5ac51ce3373bfe65444c33fd80e4bd4620", func := "emendator/emendatorlaw01.KindWords", spec := "kindWords", unfollowed := true, recurses := true, apart := false }
def KindWordsSaid : Prop := kindWordsRow.holds Try.pinned (OpenSpec.ofChange kindWordsSpec)

/-- ITS FALSE NEIGHBOUR: 'it returns false'. Refute it at one input. -/
def kindWordsWrong : ChangeSpec := { name := "kindWords", fn := fun _ => fun
  | [d] => { results := [.lit (.bool false)], args := [d] }
  | _ => none }
def KindWordsWrongFalsely : Prop := kindWordsRow.holds Try.pinned (OpenSpec.ofChange kindWordsWrong)

/-- 'emendatorlaw01.KindIs': WHATEVER THE INPUT: true; the input reads as it did. -/
def kindIsSpec : ChangeSpec := { name := "kindIs", fn := fun _ => fun
  | [d1, d2] => { results := [.lit (.bool true)], args := [d1, d2] }
  | _ => none }
def kindIsRow : OpenClaim := { program := "ytemnppfdoicmpaa", sum := "18246151d4b50023d200c41fe41d6b5ac51ce3373bfe65444c33fd80e4bd4620", func := "emendator/emendatorlaw01.KindIs", spec := "kindIs", unfollowed := true, recurses := true, apart := false }
def KindIsSaid : Prop := kindIsRow.holds Try.pinned (OpenSpec.ofChange kindIsSpec)

/-- ITS FALSE NEIGHBOUR: 'it returns false'. Refute it at one input. -/
def kindIsWrong : ChangeSpec := { name := "kindIs", fn := fun _ => fun
  | [d1, d2] => { results := [.lit (.bool false)], args := [d1, d2] }
  | _ => none }
def KindIsWrongFalsely : Prop := kindIsRow.holds Try.pinned (OpenSpec.ofChange kindIsWrong)

/-- 'emendatorlaw01.KindLetters': WHATEVER THE INPUT: true; the input reads as it did. -/
def kindLettersSpec : ChangeSpec := { name := "kindLetters", fn := fun _ => fun
  | [d1, d2, d3] => { results := [.lit (.bool true)], args := [d1, d2, d3] }
  | _ => none }
def kindLettersRow : OpenClaim := { program := "ytemnppfdoicmpaa", sum := "18246151d4b50023d200c41fe41d6b5ac51ce3373bfe65444c33fd80e4bd4620", func := "emendator/emendatorlaw01.KindLetters", spec := "kindLetters", unfollowed := true, recurses := true, apart := false }
def KindLettersSaid : Prop := kindLettersRow.holds Try.pinned (OpenSpec.ofChange kindLettersSpec)

/-- ITS FALSE NEIGHBOUR: 'it returns false'. Refute it at one input. -/
def kindLettersWrong : ChangeSpec := { name := "kindLetters", fn := fun _ => fun
  | [d1, d2, d3] => { results := [.lit (.bool false)], args := [d1, d2, d3] }
  | _ => none }
def KindLettersWrongFalsely : Prop := kindLettersRow.holds Try.pinned (OpenSpec.ofChange kindLettersWrong)

/-- 'emendatorlaw01.KindFolds': WHATEVER THE INPUT: true; the input reads as it did. -/
def kindFoldsSpec : ChangeSpec := { name := "kindFolds", fn := fun _ => fun
  | [d1, d2] => { results := [.lit (.bool true)], args := [d1, d2] }
  | _ => none }
def kindFoldsRow : OpenClaim := { program := "ytemnppfdoicmpaa", sum := "18246151d4b50023d200c41fe41d6b5ac51ce3373bfe65444c33fd80e4bd4620", func := "emendator/emendatorlaw01.KindFolds", spec := "kindFolds", unfollowed := true, recurses := true, apart := false }
def KindFoldsSaid : Prop := kindFoldsRow.holds Try.pinned (OpenSpec.ofChange kindFoldsSpec)

/-- ITS FALSE NEIGHBOUR: 'it returns false'. Refute it at one input. -/
def kindFoldsWrong : ChangeSpec := { name := "kindFolds", fn := fun _ => fun
  | [d1, d2] => { results := [.lit (.bool false)], args := [d1, d2] }
  | _ => none }
def KindFoldsWrongFalsely : Prop := kindFoldsRow.holds Try.pinned (OpenSpec.ofChange kindFoldsWrong)

/-- 'emendatorlaw01.KindHas': WHATEVER THE INPUT: true; the input reads as it did. -/
def kindHasSpec : ChangeSpec := { name := "kindHas", fn := fun _ => fun
  | [d1, d2, d3, d4] => { results := [.lit (.bool true)], args := [d1, d2, d3, d4] }
  | _ => none }
def kindHasRow : OpenClaim := { program := "ytemnppfdoicmpaa", sum := "18246151d4b50023d200c41fe41d6b5ac51ce3373bfe65444c33fd80e4bd4620", func := "emendator/emendatorlaw01.KindHas", spec := "kindHas", unfollowed := true, recurses := true, apart := false }
def KindHasSaid : Prop := kindHasRow.holds Try.pinned (OpenSpec.ofChange kindHasSpec)

/-- ITS FALSE NEIGHBOUR: 'it returns false'. Refute it at one input. -/
def kindHasWrong : ChangeSpec := { name := "kindHas", fn := fun _ => fun
  | [d1, d2, d3, d4] => { results := [.lit (.bool false)], args := [d1, d2, d3, d4] }
  | _ => none }
def KindHasWrongFalsely : Prop := kindHasRow.holds Try.pinned (OpenSpec.ofChange kindHasWrong)

/-- 'emendatorlaw01.KindWith': WHATEVER THE INPUT: true; the input reads as it did. -/
def kindWithSpec : ChangeSpec := { name := "kindWith", fn := fun _ => fun
  | [d1, d2, d3, d4] => { results := [.lit (.bool true)], args := [d1, d2, d3, d4] }
  | _ => none }
def kindWithRow : OpenClaim := { program := "ytemnppfdoicmpaa", sum := "18246151d4b50023d200c41fe41d6b5ac51ce3373bfe65444c33fd80e4bd4620", func := "emendator/emendatorlaw01.KindWith", spec := "kindWith", unfollowed := true, recurses := true, apart := false }
def KindWithSaid : Prop := kindWithRow.holds Try.pinned (OpenSpec.ofChange kindWithSpec)

/-- ITS FALSE NEIGHBOUR: 'it returns false'. Refute it at one input. -/
def kindWithWrong : ChangeSpec := { name := "kindWith", fn := fun _ => fun
  | [d1, d2, d3, d4] => { results := [.lit (.bool false)], args := [d1, d2, d3, d4] }
  | _ => none }
def KindWithWrongFalsely : Prop := kindWithRow.holds Try.pinned (OpenSpec.ofChange kindWithWrong)

/-- 'emendatorlaw01.KindCount': WHATEVER THE INPUT: true; the input reads as it did. -/
def kindCountSpec : ChangeSpec := { name := "kindCount", fn := fun _ => fun
  | [d] => { results := [.lit (.bool true)], args := [d] }
  | _ => none }
def kindCountRow : OpenClaim := { program := "ytemnppfdoicmpaa", sum := "18246151d4b50023d200c41fe41d6b5ac51ce3373bfe65444c33fd80e4bd4620", func := "emendator/emendatorlaw01.KindCount", spec := "kindCount", unfollowed := true, recurses := true, apart := false }
def KindCountSaid : Prop := kindCountRow.holds Try.pinned (OpenSpec.ofChange kindCountSpec)

/-- ITS FALSE NEIGHBOUR: 'it returns false'. Refute it at one input. -/
def kindCountWrong : ChangeSpec := { name := "kindCount", fn := fun _ => fun
  | [d] => { results := [.lit (.bool false)], args := [d] }
  | _ => none }
def KindCountWrongFalsely : Prop := kindCountRow.holds Try.pinned (OpenSpec.ofChange kindCountWrong)

/-- 'emendatorlaw01.KindOther': WHATEVER THE INPUT: true; the input reads as it did. -/
def kindOtherSpec : ChangeSpec := { name := "kindOther", fn := fun _ => fun
  | [d1, d2] => { results := [.lit (.bool true)], args := [d1, d2] }
  | _ => none }
def kindOtherRow : OpenClaim := { program := "ytemnppfdoicmpaa", sum := "18246151d4b50023d200c41fe41d6b5ac51ce3373bfe65444c33fd80e4bd4620", func := "emendator/emendatorlaw01.KindOther", spec := "kindOther", unfollowed := true, recurses := true, apart := false }
def KindOtherSaid : Prop := kindOtherRow.holds Try.pinned (OpenSpec.ofChange kindOtherSpec)

/-- ITS FALSE NEIGHBOUR: 'it returns false'. Refute it at one input. -/
def kindOtherWrong : ChangeSpec := { name := "kindOther", fn := fun _ => fun
  | [d1, d2] => { results := [.lit (.bool false)], args := [d1, d2] }
  | _ => none }
def KindOtherWrongFalsely : Prop := kindOtherRow.holds Try.pinned (OpenSpec.ofChange kindOtherWrong)

/-- 'emendatorlaw01.KindSets': WHATEVER THE INPUT: true; the input reads as it did. -/
def kindSetsSpec : ChangeSpec := { name := "kindSets", fn := fun _ => fun
  | [d1, d2] => { results := [.lit (.bool true)], args := [d1, d2] }
  | _ => none }
def kindSetsRow : OpenClaim := { program := "ytemnppfdoicmpaa", sum := "18246151d4b50023d200c41fe41d6b5ac51ce3373bfe65444c33fd80e4bd4620", func := "emendator/emendatorlaw01.KindSets", spec := "kindSets", unfollowed := true, recurses := true, apart := false }
def KindSetsSaid : Prop := kindSetsRow.holds Try.pinned (OpenSpec.ofChange kindSetsSpec)

/-- ITS FALSE NEIGHBOUR: 'it returns false'. Refute it at one input. -/
def kindSetsWrong : ChangeSpec := { name := "kindSets", fn := fun _ => fun
  | [d1, d2] => { results := [.lit (.bool false)], args := [d1, d2] }
  | _ => none }
def KindSetsWrongFalsely : Prop := kindSetsRow.holds Try.pinned (OpenSpec.ofChange kindSetsWrong)

/-- 'emendatorlaw01.KindNamed': WHATEVER THE INPUT: true; the input reads as it did. -/
def kindNamedSpec : ChangeSpec := { name := "kindNamed", fn := fun _ => fun
  | [d] => { results := [.lit (.bool true)], args := [d] }
  | _ => none }
def kindNamedRow : OpenClaim := { program := "ytemnppfdoicmpaa", sum := "18246151d4b50023d200c41fe41d6b5ac51ce3373bfe65444c33fd80e4bd4620", func := "emendator/emendatorlaw01.KindNamed", spec := "kindNamed", unfollowed := true, recurses := true, apart := false }
def KindNamedSaid : Prop := kindNamedRow.holds Try.pinned (OpenSpec.ofChange kindNamedSpec)

/-- ITS FALSE NEIGHBOUR: 'it returns false'. Refute it at one input. -/
def kindNamedWrong : ChangeSpec := { name := "kindNamed", fn := fun _ => fun
  | [d] => { results := [.lit (.bool false)], args := [d] }
  | _ => none }
def KindNamedWrongFalsely : Prop := kindNamedRow.holds Try.pinned (OpenSpec.ofChange kindNamedWrong)

/- THE SECOND FORM. 'bulk': how many values and letters a reading holds, each counted each time it is reached (what is shared counts as often as it is met; a slice's spare places count too). A statement '..UptoSaid' is the law's where the arguments, and the package variables that the reading takes, are together of bulk at most 1048576: NARROWER than '..Said'. Prove '..Said' where nothing that the law and all that it calls make is longer than what came in: it says more and counts as full. Else prove '..UptoSaid'. A law counts once. -/
mutual
def uptoBulk {H : Type} : DataW H → Nat
  | .lit (.string bytes) => bytes.length + 1
  | .lit _ => 1
  | .nil => 1
  | .ptr d => uptoBulk d + 1
  | .slice elems spare => uptoBulkAll elems + uptoBulkAll spare + 1
  | .agg parts => uptoBulkAll parts + 1
  | .iface _ d => uptoBulk d + 1
  | .map entries => uptoBulkEntries entries + 1
  | .held _ => 1
def uptoBulkAll {H : Type} : List (DataW H) → Nat
  | [] => 0
  | d :: r => uptoBulk d + uptoBulkAll r
def uptoBulkEntries {H : Type} : List (Lit × DataW H) → Nat
  | [] => 0
  | x :: r => uptoBulkEntry x + uptoBulkEntries r
def uptoBulkEntry {H : Type} : Lit × DataW H → Nat
  | (.string bytes, d) => bytes.length + uptoBulk d + 1
  | (_, d) => uptoBulk d + 1
 end
def uptoSmall : (H : Type) → List (DataW H) → Bool := fun _ ds => decide (uptoBulkAll ds ≤ 1048576)
def OpenSpec.upto (s : _root_.Go.ChangeSpec) : _root_.Go.OpenSpec := { _root_.Go.OpenSpec.ofChange s with cond := some uptoSmall }

/-- 'emendatorlaw01.KindWords', WHERE WHAT IT READS IS OF BULK AT MOST 1048576: true; the input reads as it did. -/
def kindWordsUptoRow : OpenClaim := { program := "ytemnppfdoicmpaa", sum := "18246151d4b50023d200c41fe41d6b5ac51ce3373bfe65444c33fd80e4bd4620", func := "emendator/emendatorlaw01.KindWords", spec := "kindWords", unfollowed := true, recurses := true, apart := false, narrowed := true }
def KindWordsUptoSaid : Prop := kindWordsUptoRow.holds Try.pinned (OpenSpec.upto kindWordsSpec)

/-- 'emendatorlaw01.KindIs', WHERE WHAT IT READS IS OF BULK AT MOST 1048576: true; the input reads as it did. -/
def kindIsUptoRow : OpenClaim := { program := "ytemnppfdoicmpaa", sum := "18246151d4b50023d200c41fe41d6b5ac51ce3373bfe65444c33fd80e4bd4620", func := "emendator/emendatorlaw01.KindIs", spec := "kindIs", unfollowed := true, recurses := true, apart := false, narrowed := true }
def KindIsUptoSaid : Prop := kindIsUptoRow.holds Try.pinned (OpenSpec.upto kindIsSpec)

/-- 'emendatorlaw01.KindLetters', WHERE WHAT IT READS IS OF BULK AT MOST 1048576: true; the input reads as it did. -/
def kindLettersUptoRow : OpenClaim := { program := "ytemnppfdoicmpaa", sum := "18246151d4b50023d200c41fe41d6b5ac51ce3373bfe65444c33fd80e4bd4620", func := "emendator/emendatorlaw01.KindLetters", spec := "kindLetters", unfollowed := true, recurses := true, apart := false, narrowed := true }
def KindLettersUptoSaid : Prop := kindLettersUptoRow.holds Try.pinned (OpenSpec.upto kindLettersSpec)

/-- 'emendatorlaw01.KindFolds', WHERE WHAT IT READS IS OF BULK AT MOST 1048576: true; the input reads as it did. -/
def kindFoldsUptoRow : OpenClaim := { program := "ytemnppfdoicmpaa", sum := "18246151d4b50023d200c41fe41d6b5ac51ce3373bfe65444c33fd80e4bd4620", func := "emendator/emendatorlaw01.KindFolds", spec := "kindFolds", unfollowed := true, recurses := true, apart := false, narrowed := true }
def KindFoldsUptoSaid : Prop := kindFoldsUptoRow.holds Try.pinned (OpenSpec.upto kindFoldsSpec)

/-- 'emendatorlaw01.KindHas', WHERE WHAT IT READS IS OF BULK AT MOST 1048576: true; the input reads as it did. -/
def kindHasUptoRow : OpenClaim := { program := "ytemnppfdoicmpaa", sum := "18246151d4b50023d200c41fe41d6b5ac51ce3373bfe65444c33fd80e4bd4620", func := "emendator/emendatorlaw01.KindHas", spec := "kindHas", unfollowed := true, recurses := true, apart := false, narrowed := true }
def KindHasUptoSaid : Prop := kindHasUptoRow.holds Try.pinned (OpenSpec.upto kindHasSpec)

/-- 'emendatorlaw01.KindWith', WHERE WHAT IT READS IS OF BULK AT MOST 1048576: true; the input reads as it did. -/
def kindWithUptoRow : OpenClaim := { program := "ytemnppfdoicmpaa", sum := "18246151d4b50023d200c41fe41d6b5ac51ce3373bfe65444c33fd80e4bd4620", func := "emendator/emendatorlaw01.KindWith", spec := "kindWith", unfollowed := true, recurses := true, apart := false, narrowed := true }
def KindWithUptoSaid : Prop := kindWithUptoRow.holds Try.pinned (OpenSpec.upto kindWithSpec)

/-- 'emendatorlaw01.KindCount', WHERE WHAT IT READS IS OF BULK AT MOST 1048576: true; the input reads as it did. -/
def kindCountUptoRow : OpenClaim := { program := "ytemnppfdoicmpaa", sum := "18246151d4b50023d200c41fe41d6b5ac51ce3373bfe65444c33fd80e4bd4620", func := "emendator/emendatorlaw01.KindCount", spec := "kindCount", unfollowed := true, recurses := true, apart := false, narrowed := true }
def KindCountUptoSaid : Prop := kindCountUptoRow.holds Try.pinned (OpenSpec.upto kindCountSpec)

/-- 'emendatorlaw01.KindOther', WHERE WHAT IT READS IS OF BULK AT MOST 1048576: true; the input reads as it did. -/
def kindOtherUptoRow : OpenClaim := { program := "ytemnppfdoicmpaa", sum := "18246151d4b50023d200c41fe41d6b5ac51ce3373bfe65444c33fd80e4bd4620", func := "emendator/emendatorlaw01.KindOther", spec := "kindOther", unfollowed := true, recurses := true, apart := false, narrowed := true }
def KindOtherUptoSaid : Prop := kindOtherUptoRow.holds Try.pinned (OpenSpec.upto kindOtherSpec)

/-- 'emendatorlaw01.KindSets', WHERE WHAT IT READS IS OF BULK AT MOST 1048576: true; the input reads as it did. -/
def kindSetsUptoRow : OpenClaim := { program := "ytemnppfdoicmpaa", sum := "18246151d4b50023d200c41fe41d6b5ac51ce3373bfe65444c33fd80e4bd4620", func := "emendator/emendatorlaw01.KindSets", spec := "kindSets", unfollowed := true, recurses := true, apart := false, narrowed := true }
def KindSetsUptoSaid : Prop := kindSetsUptoRow.holds Try.pinned (OpenSpec.upto kindSetsSpec)

/-- 'emendatorlaw01.KindNamed', WHERE WHAT IT READS IS OF BULK AT MOST 1048576: true; the input reads as it did. -/
def kindNamedUptoRow : OpenClaim := { program := "ytemnppfdoicmpaa", sum := "18246151d4b50023d200c41fe41d6b5ac51ce3373bfe65444c33fd80e4bd4620", func := "emendator/emendatorlaw01.KindNamed", spec := "kindNamed", unfollowed := true, recurses := true, apart := false, narrowed := true }
def KindNamedUptoSaid : Prop := kindNamedUptoRow.holds Try.pinned (OpenSpec.upto kindNamedSpec)

end Rows
end Go.Proofs.Ytemnppfdoicmpaa
