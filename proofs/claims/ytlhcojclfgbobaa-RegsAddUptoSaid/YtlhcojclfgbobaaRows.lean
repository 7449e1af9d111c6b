/-
  No cell of these rows narrows 'for every input' (looked for: loops, veiled, ifaces, maps, wideKeys, modest, calm, conditions, laid).
  DERIVED. THE GIVEN ROWS OF THIS SEAT. 6 by the template 'for every input the law returns true; each argument reads behind the call as it read before'; 0 by the template 'total and deterministic' (their statements: YtlhcojclfgbobaaTotals.lean).
  GIVEN WITH THE SEED: the statements are not yours to turn. If you find one false, say at which input.
  Laid BY PROGRAM, IN A SANDBOX (cutbox-rows.mjs): the forced cells as the released guide's own fill.sh prints them over the translation 40bf07a39e7d98dc… (all of the seat's roots in one cut). By AI agents, Wed Nov 11 2026. No macro, syntax, notation, axiom, sorry.
-/
import Derived.Test.YtlhcojclfgbobaaChecked
import GoSem.Claim
import GoSem.ClaimJoined
import GoSem.ClaimMapViews
import Derived.JoinedTies
import Derived.KernelRfl
namespace Go.Proofs.Ytlhcojclfgbobaa
/- THE CELL 'sum', in the pinned program and in every row, IS THE sha256 OF THE DUMP (.gsa) THAT YtlhcojclfgbobaaProg.lean LOADS. Nothing in Lean hashes anything: it is a label: what it is worth is what the hold of that sum in a sandbox is worth. -/
noncomputable def Try.pinned : Pinned := { name := "ytlhcojclfgbobaa", sum := "40bf07a39e7d98dc704d7c246276c82d08730d86ec39c79607ddc354fef47095", checked := Try.checked }
namespace Rows
def none {H : Type} : Left H := { results := [], args := [] }

/-- 'emendatorlaw11.RegsAdd': WHATEVER THE INPUT: true; the input reads as it did. -/
def regsAddSpec : ChangeSpec := { name := "regsAdd", fn := fun _ => fun
  | [d1, d2, d3] => { results := [.lit (.bool true)], args := [d1, d2, d3] }
  | _ => none }
def regsAddRow : OpenClaim := { program := "ytlhcojclfgbobaa", sum := "40bf07a39e7d98dc704d7c246276c82d08730d86ec39c79607ddc354fef47095", func := "emendator/emendatorlaw11.RegsAdd", spec := "regsAdd", unfollowed := true, recurses := true, apart := false }
def RegsAddSaid : Prop := regsAddRow.holds Try.pinned (OpenSpec.ofChange regsAddSpec)

/-- ITS FALSE NEIGHBOUR: 'it returns false'. Refute it at one input. -/
def regsAddWrong : ChangeSpec := { name := "regsAdd", fn := fun _ => fun
  | [d1, d2, d3] => { results := [.lit (.bool false)], args := [d1, d2, d3] }
  | _ => none }
def RegsAddWrongFalsely : Prop := regsAddRow.holds Try.pinned (OpenSpec.ofChange regsAddWrong)

/-- 'emendatorlaw11.RegsKeep': WHATEVER THE INPUT: true; the input reads as it did. -/
def regsKeepSpec : ChangeSpec := { name := "regsKeep", fn := fun _ => fun
  | [d1, d2, d3] => { results := [.lit (.bool true)], args := [d1, d2, d3] }
  | _ => none }
def regsKeepRow : OpenClaim := { program := "ytlhcojclfgbobaa", sum := "40bf07a39e7d98dc704d7c246276c82d08730d86ec39c79607ddc354fef47095", func := "emendator/emendatorlaw11.RegsKeep", spec := "regsKeep", unfollowed := true, recurses := true, apart := false }
def RegsKeepSaid : Prop := regsKeepRow.holds Try.pinned (OpenSpec.ofChange regsKeepSpec)

/-- ITS FALSE NEIGHBOUR: 'it returns false'. Refute it at one input. -/
def regsKeepWrong : ChangeSpec := { name := "regsKeep", fn := fun _ => fun
  | [d1, d2, d3] => { results := [.lit (.bool false)], args := [d1, d2, d3] }
  | _ => none }
def RegsKeepWrongFalsely : Prop := regsKeepRow.holds Try.pinned (OpenSpec.ofChange regsKeepWrong)

/-- 'emendatorlaw11.RegsShift': WHATEVER THE INPUT: true; the input reads as it did. -/
def regsShiftSpec : ChangeSpec := { name := "regsShift", fn := fun _ => fun
  | [d] => { results := [.lit (.bool true)], args := [d] }
  | _ => none }
def regsShiftRow : OpenClaim := { program := "ytlhcojclfgbobaa", sum := "40bf07a39e7d98dc704d7c246276c82d08730d86ec39c79607ddc354fef47095", func := "emendator/emendatorlaw11.RegsShift", spec := "regsShift", unfollowed := true, recurses := true, apart := false }
def RegsShiftSaid : Prop := regsShiftRow.holds Try.pinned (OpenSpec.ofChange regsShiftSpec)

/-- ITS FALSE NEIGHBOUR: 'it returns false'. Refute it at one input. -/
def regsShiftWrong : ChangeSpec := { name := "regsShift", fn := fun _ => fun
  | [d] => { results := [.lit (.bool false)], args := [d] }
  | _ => none }
def RegsShiftWrongFalsely : Prop := regsShiftRow.holds Try.pinned (OpenSpec.ofChange regsShiftWrong)

/-- 'emendatorlaw11.RegsNames': WHATEVER THE INPUT: true; the input reads as it did. -/
def regsNamesSpec : ChangeSpec := { name := "regsNames", fn := fun _ => fun
  | [d1, d2] => { results := [.lit (.bool true)], args := [d1, d2] }
  | _ => none }
def regsNamesRow : OpenClaim := { program := "ytlhcojclfgbobaa", sum := "40bf07a39e7d98dc704d7c246276c82d08730d86ec39c79607ddc354fef47095", func := "emendator/emendatorlaw11.RegsNames", spec := "regsNames", unfollowed := true, recurses := true, apart := false }
def RegsNamesSaid : Prop := regsNamesRow.holds Try.pinned (OpenSpec.ofChange regsNamesSpec)

/-- ITS FALSE NEIGHBOUR: 'it returns false'. Refute it at one input. -/
def regsNamesWrong : ChangeSpec := { name := "regsNames", fn := fun _ => fun
  | [d1, d2] => { results := [.lit (.bool false)], args := [d1, d2] }
  | _ => none }
def RegsNamesWrongFalsely : Prop := regsNamesRow.holds Try.pinned (OpenSpec.ofChange regsNamesWrong)

/-- 'emendatorlaw11.RegsNowhere': WHATEVER THE INPUT: true; the input reads as it did. -/
def regsNowhereSpec : ChangeSpec := { name := "regsNowhere", fn := fun _ => fun
  | [d1, d2] => { results := [.lit (.bool true)], args := [d1, d2] }
  | _ => none }
def regsNowhereRow : OpenClaim := { program := "ytlhcojclfgbobaa", sum := "40bf07a39e7d98dc704d7c246276c82d08730d86ec39c79607ddc354fef47095", func := "emendator/emendatorlaw11.RegsNowhere", spec := "regsNowhere", unfollowed := true, recurses := true, apart := false }
def RegsNowhereSaid : Prop := regsNowhereRow.holds Try.pinned (OpenSpec.ofChange regsNowhereSpec)

/-- ITS FALSE NEIGHBOUR: 'it returns false'. Refute it at one input. -/
def regsNowhereWrong : ChangeSpec := { name := "regsNowhere", fn := fun _ => fun
  | [d1, d2] => { results := [.lit (.bool false)], args := [d1, d2] }
  | _ => none }
def RegsNowhereWrongFalsely : Prop := regsNowhereRow.holds Try.pinned (OpenSpec.ofChange regsNowhereWrong)

/-- 'emendatorlaw11.RegsDoes': WHATEVER THE INPUT: true; the input reads as it did. -/
def regsDoesSpec : ChangeSpec := { name := "regsDoes", fn := fun _ => fun
  | [d] => { results := [.lit (.bool true)], args := [d] }
  | _ => none }
def regsDoesRow : OpenClaim := { program := "ytlhcojclfgbobaa", sum := "40bf07a39e7d98dc704d7c246276c82d08730d86ec39c79607ddc354fef47095", func := "emendator/emendatorlaw11.RegsDoes", spec := "regsDoes", inPlace := ["maps.clone"], unfollowed := true, recurses := true, apart := false }
def RegsDoesSaid : Prop := regsDoesRow.holds Try.pinned (OpenSpec.ofChange regsDoesSpec)

/-- ITS FALSE NEIGHBOUR: 'it returns false'. Refute it at one input. -/
def regsDoesWrong : ChangeSpec := { name := "regsDoes", fn := fun _ => fun
  | [d] => { results := [.lit (.bool false)], args := [d] }
  | _ => none }
def RegsDoesWrongFalsely : Prop := regsDoesRow.holds Try.pinned (OpenSpec.ofChange regsDoesWrong)

/- THE SECOND FORM. 'bulk': how many values and letters a reading holds, each counted each time it is reached (what is shared counts as often as it is met; a slice's spare places count too). A statement '..UptoSaid' is the law's where the arguments, and the package variables that the reading takes, are together of bulk at most 1048576: NARROWER than '..Said'. Prove '..Said' where nothing that the law and all that it calls make is longer than what came in: it says more and counts as full. Else prove '..UptoSaid'. A law counts once. -/
mutual
def uptoBulk {H : Type} : DataW H → Nat
  | .lit (.string bytes) => bytes.length + 1
  | .lit _ => 1
  | .nil => 1
  | .ptr d => uptoBulk d + 1
  | .slice elems spare => uptoBulkAll elems + uptoBulkAll spare + 1
  | .agg parts => uptoBulkAll parts + 1
  | .iface _ d => uptoBulk d + 1
  | .map entries => uptoBulkEntries entries + 1
  | .held _ => 1
def uptoBulkAll {H : Type} : List (DataW H) → Nat
  | [] => 0
  | d :: r => uptoBulk d + uptoBulkAll r
def uptoBulkEntries {H : Type} : List (Lit × DataW H) → Nat
  | [] => 0
  | x :: r => uptoBulkEntry x + uptoBulkEntries r
def uptoBulkEntry {H : Type} : Lit × DataW H → Nat
  | (.string bytes, d) => bytes.length + uptoBulk d + 1
  | (_, d) => uptoBulk d + 1
 end
def uptoSmall : (H : Type) → List (DataW H) → Bool := fun _ ds => decide (uptoBulkAll ds ≤ 1048576)
def OpenSpec.upto (s : _root_.Go.ChangeSpec) : _root_.Go.OpenSpec := { _root_.Go.OpenSpec.ofChange s with cond := some uptoSmall }

/-- 'emendatorlaw11.RegsAdd', WHERE WHAT IT READS IS OF BULK AT MOST 1048576: true; the input reads as it did. -/
def regsAddUptoRow : OpenClaim := { program := "ytlhcojclfgbobaa", sum := "40bf07a39e7d98dc704d7c246276c82d08730d86ec39c79607ddc354fef47095", func := "emendator/emendatorlaw11.RegsAdd", spec := "regsAdd", unfollowed := true, recurses := true, apart := false, narrowed := true }
def RegsAddUptoSaid : Prop := regsAddUptoRow.holds Try.pinned (OpenSpec.upto regsAddSpec)

/-- 'emendatorlaw11.RegsKeep', WHERE WHAT IT READS IS OF BULK AT MOST 1048576: true; the input reads as it did. -/
def regsKeepUptoRow : OpenClaim := { program := "ytlhcojclfgbobaa", sum := "40bf07a39e7d98dc704d7c246276c82d08730d86ec39c79607ddc354fef47095", func := "emendator/emendatorlaw11.RegsKeep", spec := "regsKeep", unfollowed := true, recurses := true, apart := false, narrowed := true }
def RegsKeepUptoSaid : Prop := regsKeepUptoRow.holds Try.pinned (OpenSpec.upto regsKeepSpec)

/-- 'emendatorlaw11.RegsShift', WHERE WHAT IT READS IS OF BULK AT MOST 1048576: true; the input reads as it did. -/
def regsShiftUptoRow : OpenClaim := { program := "ytlhcojclfgbobaa", sum := "40bf07a39e7d98dc704d7c246276c82d08730d86ec39c79607ddc354fef47095", func := "emendator/emendatorlaw11.RegsShift", spec := "regsShift", unfollowed := true, recurses := true, apart := false, narrowed := true }
def RegsShiftUptoSaid : Prop := regsShiftUptoRow.holds Try.pinned (OpenSpec.upto regsShiftSpec)

/-- 'emendatorlaw11.RegsNames', WHERE WHAT IT READS IS OF BULK AT MOST 1048576: true; the input reads as it did. -/
def regsNamesUptoRow : OpenClaim := { program := "ytlhcojclfgbobaa", sum := "40bf07a39e7d98dc704d7c246276c82d08730d86ec39c79607ddc354fef47095", func := "emendator/emendatorlaw11.RegsNames", spec := "regsNames", unfollowed := true, recurses := true, apart := false, narrowed := true }
def RegsNamesUptoSaid : Prop := regsNamesUptoRow.holds Try.pinned (OpenSpec.upto regsNamesSpec)

/-- 'emendatorlaw11.RegsNowhere', WHERE WHAT IT READS IS OF BULK AT MOST 1048576: true; the input reads as it did. -/
def regsNowhereUptoRow : OpenClaim := { program := "ytlhcojclfgbobaa", sum := "40bf07a39e7d98dc704d7c246276c82d08730d86ec39c79607ddc354fef47095", func := "emendator/emendatorlaw11.RegsNowhere", spec := "regsNowhere", unfollowed := true, recurses := true, apart := false, narrowed := true }
def RegsNowhereUptoSaid : Prop := regsNowhereUptoRow.holds Try.pinned (OpenSpec.upto regsNowhereSpec)

/-- 'emendatorlaw11.RegsDoes', WHERE WHAT IT READS IS OF BULK AT MOST 1048576: true; the input reads as it did. -/
def regsDoesUptoRow : OpenClaim := { program := "ytlhcojclfgbobaa", sum := "40bf07a39e7d98dc704d7c246276c82d08730d86ec39c79607ddc354fef47095", func := "emendator/emendatorlaw11.RegsDoes", spec := "regsDoes", inPlace := ["maps.clone"], unfollowed := true, recurses := true, apart := false, narrowed := true }
def RegsDoesUptoSaid : Prop := regsDoesUptoRow.holds Try.pinned (OpenSpec.upto regsDoesSpec)

end Rows
end Go.Proofs.Ytlhcojclfgbobaa
