/- Registers: plain words; contracts of Known, New, slices.Clone, clone, size. -/
import Derived.Test.YtlhcojclfgbobaaMap
import Derived.Test.YtlhcojclfgbobaaStrs
import Derived.Test.YtlhcojclfgbobaaKindB
import Derived.Test.YtlhcojclfgbobaaSeq
import Derived.Test.YtlhcojclfgbobaaStop
import Derived.Lib.SliceRun
import Derived.OwnWalk
import Derived.Laws.Rows
import Derived.Deep.AppendLies
namespace Go.Proofs.Ytlhcojclfgbobaa
open Go.RowKit

structure RegD where
  lines : List (List UInt8)
  whole : Bool
def RegD.clone (r : RegD) : RegD := if r.lines = [] then ⟨[[]], false⟩ else r
/-- A register's value in memory. -/
def RegAt (w : World) (v : Value) (r : RegD) : Prop := ∃ lv, v = .agg #[lv, .bool r.whole] ∧ StrsAt w lv r.lines

def knownN (c : Int) : Bool := (c == 34) || (c == 95) || digitB c || letterB c

theorem isB_d (c : Int) : isB 100 c = digitB c := by
  have h : smallI 100 = 100 := by decide
  rw [isB, h]
  show (digitB c != greatB 100) = digitB c
  rw [show greatB 100 = false by decide]
  cases digitB c <;> rfl
theorem isB_a (c : Int) : isB 97 c = letterB c := by
  have h : smallI 97 = 97 := by decide
  rw [isB, h]
  show (letterB c != greatB 97) = letterB c
  rw [show greatB 97 = false by decide]
  cases letterB c <;> rfl

set_option maxHeartbeats 1000000 in
theorem RKnown_any (c : Int) (h0 : 0 ≤ c) (h1 : c ≤ 255) (w : World) :
    Calls Try.prog 16 #[.int .u8 c] w fun e w' => e = .returned (.bool (knownN c)) ∧ w = w' := by
  have H1 := fun w => Is_digit 100 c (by decide) (by decide) (by decide) w
  have H2 := fun w => Is_letter 97 c (by decide) (by decide) (by decide) w
  rw [isB_d] at H1
  rw [isB_a] at H2
  unfold knownN
  generalize digitB c = D at *
  generalize letterB c = L at *
  have G1 := Lib.hid H1
  have G2 := Lib.hid H2
  clear H1 H2
  cases hc : (c == 34)
  all_goals cases hd : (c == 95)
  all_goals
    cases D
    all_goals
      go_enter Try.func16, Try.ntmps16
      go_wp2_with (first | (go_at_call_of 29 (Value.int IntKind.u8 100); refine (G1.out _).mono ?_; rintro e w' ⟨rfl, rfl⟩) | (go_at_call_of 29 (Value.int IntKind.u8 97); refine (G2.out _).mono ?_; rintro e w' ⟨rfl, rfl⟩))
      all_goals go_ret
      all_goals exact ⟨ret_bool (by simp_all), rfl⟩
end Go.Proofs.Ytlhcojclfgbobaa
