/- Contracts of kind.Has, With, Not, Both. -/
import Derived.Test.YtemnppfdoicmpaaKindB
namespace Go.Proofs.Ytemnppfdoicmpaa
open Go.RowKit

def withJ (j a c : Int) : Int := if c / 64 = j then bits BinOp.or .u64 a (IntKind.u64.wrap (2 ^ (c % 64).toNat)) else a
def selJ (a0 a1 a2 a3 c : Int) : Int := if c / 64 = 0 then a0 else if c / 64 = 1 then a1 else if c / 64 = 2 then a2 else a3
def hasB (a0 a1 a2 a3 c : Int) : Bool := bits BinOp.and .u64 (selJ a0 a1 a2 a3 c / 2 ^ (c % 64).toNat) 1 != 0
def notI (a : Int) : Int := bits BinOp.xor .u64 IntKind.u64.max a
def bothI (a b : Int) : Int := bits BinOp.or .u64 a b

theorem quarters {c : Int} (h0 : 0 ≤ c) (h1 : c ≤ 255) : c / 64 = 0 ∨ c / 64 = 1 ∨ c / 64 = 2 ∨ c / 64 = 3 := by omega

theorem Has_any (a0 a1 a2 a3 c : Int) (h0 : 0 ≤ c) (h1 : c ≤ 255) (w : World) :
    Calls Try.prog 25 #[.agg #[.int .u64 a0, .int .u64 a1, .int .u64 a2, .int .u64 a3], .int .u8 c] w fun e w' => e = .returned (.bool (hasB a0 a1 a2 a3 c)) ∧ Below w.heap.size w w' := by
  rcases quarters h0 h1 with h | h | h | h
  all_goals
    go_enter Try.func25, Try.ntmps25
    go_wp2
    go_ret
    exact ⟨ret_bool (by simp [hasB, selJ, h]), (Below.refl _ _).alloc (Nat.le_refl _) _⟩

theorem With_any (a0 a1 a2 a3 c : Int) (h0 : 0 ≤ c) (h1 : c ≤ 255) (w : World) :
    Calls Try.prog 24 #[.agg #[.int .u64 a0, .int .u64 a1, .int .u64 a2, .int .u64 a3], .int .u8 c] w fun e w' =>
      e = .returned (.agg #[.int .u64 (withJ 0 a0 c), .int .u64 (withJ 1 a1 c), .int .u64 (withJ 2 a2 c), .int .u64 (withJ 3 a3 c)]) ∧ Below w.heap.size w w' := by
  rcases quarters h0 h1 with h | h | h | h
  all_goals
    go_enter Try.func24, Try.ntmps24
    go_wp2
    refine bodyPost_ret (v := .agg #[.int .u64 (withJ 0 a0 c), .int .u64 (withJ 1 a1 c), .int .u64 (withJ 2 a2 c), .int .u64 (withJ 3 a3 c)]) ?_ rfl ⟨rfl, by (repeat (first | exact Below.refl _ _ | assumption | refine Below.drew ?_ | refine Below.alloc ?_ (by first | exact Nat.le_refl _ | (simp; done) | (simp; omega)) _ | refine Below.setCell ?_ (by first | exact Nat.le_refl _ | (simp; done) | (simp; omega)) _))⟩
    simp [results, Try.results24, go_sem, withJ, h]

theorem Not_any (a0 a1 a2 a3 : Int) (w : World) :
    Calls Try.prog 28 #[.agg #[.int .u64 a0, .int .u64 a1, .int .u64 a2, .int .u64 a3]] w fun e w' =>
      e = .returned (.agg #[.int .u64 (notI a0), .int .u64 (notI a1), .int .u64 (notI a2), .int .u64 (notI a3)]) ∧ Below w.heap.size w w' := by
  go_enter Try.func28, Try.ntmps28
  go_wp2
  refine wp_loop_rounds 5 ?_
  iterate 5 (all_goals (rw [rounds_succ]; go_wp2))
  refine bodyPost_ret (v := .agg #[.int .u64 (notI a0), .int .u64 (notI a1), .int .u64 (notI a2), .int .u64 (notI a3)]) ?_ rfl ⟨rfl, by (repeat (first | exact Below.refl _ _ | assumption | refine Below.drew ?_ | refine Below.alloc ?_ (by first | exact Nat.le_refl _ | (simp; done) | (simp; omega)) _ | refine Below.setCell ?_ (by first | exact Nat.le_refl _ | (simp; done) | (simp; omega)) _))⟩
  simp [results, Try.results28, go_sem, notI]
theorem Both_any (a0 a1 a2 a3 b0 b1 b2 b3 : Int) (w : World) :
    Calls Try.prog 30 #[.agg #[.int .u64 a0, .int .u64 a1, .int .u64 a2, .int .u64 a3], .agg #[.int .u64 b0, .int .u64 b1, .int .u64 b2, .int .u64 b3]] w fun e w' =>
      e = .returned (.agg #[.int .u64 (bothI a0 b0), .int .u64 (bothI a1 b1), .int .u64 (bothI a2 b2), .int .u64 (bothI a3 b3)]) ∧ Below w.heap.size w w' := by
  go_enter Try.func30, Try.ntmps30
  go_wp2
  refine wp_loop_rounds 5 ?_
  iterate 4 (rw [rounds_succ]; go_wp2; go_region; go_wp2)
  rw [rounds_succ]
  go_wp2
  refine bodyPost_ret (v := .agg #[.int .u64 (bothI a0 b0), .int .u64 (bothI a1 b1), .int .u64 (bothI a2 b2), .int .u64 (bothI a3 b3)]) ?_ rfl ⟨rfl, by (repeat (first | exact Below.refl _ _ | assumption | refine Below.drew ?_ | refine Below.alloc ?_ (by first | exact Nat.le_refl _ | (simp; done) | (simp; omega)) _ | refine Below.setCell ?_ (by first | exact Nat.le_refl _ | (simp; done) | (simp; omega)) _))⟩
  simp [results, Try.results30, go_sem, bothI]
end Go.Proofs.Ytemnppfdoicmpaa
