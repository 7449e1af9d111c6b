/- Contracts of Has, With, Not, Both of emendatorref01. -/
import Derived.Test.YtemnppfdoicmpaaKindC
namespace Go.Proofs.Ytemnppfdoicmpaa
open Go.RowKit

def rhasB (a0 a1 a2 a3 c : Int) : Bool := bits BinOp.and .u64 (selJ a0 a1 a2 a3 c / 2 ^ (c % 64).toNat) 1 == 1

theorem rHas_any (a0 a1 a2 a3 c : Int) (h0 : 0 ≤ c) (h1 : c ≤ 255) (w : World) :
    Calls Try.prog 26 #[.agg #[.int .u64 a0, .int .u64 a1, .int .u64 a2, .int .u64 a3], .int .u8 c] w fun e w' => e = .returned (.bool (rhasB a0 a1 a2 a3 c)) ∧ Below w.heap.size w w' := by
  rcases quarters h0 h1 with h | h | h | h
  all_goals
    go_enter Try.func26, Try.ntmps26
    go_wp2
    go_ret
    exact ⟨ret_bool (by simp [rhasB, selJ, h]), (Below.refl _ _).alloc (Nat.le_refl _) _⟩

theorem rWith_any (a0 a1 a2 a3 c : Int) (h0 : 0 ≤ c) (h1 : c ≤ 255) (w : World) :
    Calls Try.prog 27 #[.agg #[.int .u64 a0, .int .u64 a1, .int .u64 a2, .int .u64 a3], .int .u8 c] w fun e w' =>
      e = .returned (.agg #[.int .u64 (withJ 0 a0 c), .int .u64 (withJ 1 a1 c), .int .u64 (withJ 2 a2 c), .int .u64 (withJ 3 a3 c)]) ∧ Below w.heap.size w w' := by
  rcases quarters h0 h1 with h | h | h | h
  all_goals
    go_enter Try.func27, Try.ntmps27
    go_wp2
    try (go_region; go_wp2)
    refine bodyPost_ret (v := .agg #[.int .u64 (withJ 0 a0 c), .int .u64 (withJ 1 a1 c), .int .u64 (withJ 2 a2 c), .int .u64 (withJ 3 a3 c)]) ?_ rfl ⟨rfl, by (repeat (first | exact Below.refl _ _ | assumption | refine Below.drew ?_ | refine Below.alloc ?_ (by first | exact Nat.le_refl _ | (simp; done) | (simp; omega)) _ | refine Below.setCell ?_ (by first | exact Nat.le_refl _ | (simp; done) | (simp; omega)) _))⟩
    simp [results, Try.results27, go_sem, withJ, h]

theorem rNot_any (a0 a1 a2 a3 : Int) (w : World) :
    Calls Try.prog 29 #[.agg #[.int .u64 a0, .int .u64 a1, .int .u64 a2, .int .u64 a3]] w fun e w' =>
      e = .returned (.agg #[.int .u64 (notI a0), .int .u64 (notI a1), .int .u64 (notI a2), .int .u64 (notI a3)]) ∧ Below w.heap.size w w' := by
  go_enter Try.func29, Try.ntmps29
  go_wp2
  refine wp_loop_rounds 5 ?_
  iterate 5 (all_goals (rw [rounds_succ]; go_wp2))
  refine bodyPost_ret (v := .agg #[.int .u64 (notI a0), .int .u64 (notI a1), .int .u64 (notI a2), .int .u64 (notI a3)]) ?_ rfl ⟨rfl, by (repeat (first | exact Below.refl _ _ | assumption | refine Below.drew ?_ | refine Below.alloc ?_ (by first | exact Nat.le_refl _ | (simp; done) | (simp; omega)) _ | refine Below.setCell ?_ (by first | exact Nat.le_refl _ | (simp; done) | (simp; omega)) _))⟩
  simp [results, Try.results29, go_sem, notI]

theorem rBoth_any (a0 a1 a2 a3 b0 b1 b2 b3 : Int) (w : World) :
    Calls Try.prog 31 #[.agg #[.int .u64 a0, .int .u64 a1, .int .u64 a2, .int .u64 a3], .agg #[.int .u64 b0, .int .u64 b1, .int .u64 b2, .int .u64 b3]] w fun e w' =>
      e = .returned (.agg #[.int .u64 (bothI a0 b0), .int .u64 (bothI a1 b1), .int .u64 (bothI a2 b2), .int .u64 (bothI a3 b3)]) ∧ Below w.heap.size w w' := by
  go_enter Try.func31, Try.ntmps31
  go_wp2
  refine wp_loop_rounds 5 ?_
  iterate 4 (rw [rounds_succ]; go_wp2; go_region; go_wp2)
  rw [rounds_succ]
  go_wp2
  refine bodyPost_ret (v := .agg #[.int .u64 (bothI a0 b0), .int .u64 (bothI a1 b1), .int .u64 (bothI a2 b2), .int .u64 (bothI a3 b3)]) ?_ rfl ⟨rfl, by (repeat (first | exact Below.refl _ _ | assumption | refine Below.drew ?_ | refine Below.alloc ?_ (by first | exact Nat.le_refl _ | (simp; done) | (simp; omega)) _ | refine Below.setCell ?_ (by first | exact Nat.le_refl _ | (simp; done) | (simp; omega)) _))⟩
  simp [results, Try.results31, go_sem, bothI]
end Go.Proofs.Ytemnppfdoicmpaa
