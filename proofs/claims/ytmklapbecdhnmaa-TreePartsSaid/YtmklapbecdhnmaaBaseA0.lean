/- Short names of four lemmas on lists and numbers. No condition. -/
import Derived.WalkKit
namespace Go.Proofs.Ytmklapbecdhnmaa
theorem zzT {α : Type} (l : List α) (i : Nat) (a : α) : l.toArray.setIfInBounds i a = (l.set i a).toArray := List.setIfInBounds_toArray l i a
theorem zzO {α : Type} (l : List α) (a b : α) : (a :: l).set 0 b = b :: l := rfl
theorem zzS {α : Type} (l : List α) (i : Nat) (a b : α) : (a :: l).set (i + 1) b = a :: l.set i b := rfl
theorem zzB {a b : Nat} (h : Nat.ble a b = true) : a ≤ b := Nat.le_of_ble_eq_true h
end Go.Proofs.Ytmklapbecdhnmaa
