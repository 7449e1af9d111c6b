/- Contracts of the functions of package kind, but for sets. -/
import Derived.Test.YtalgdihaeglleaaProg
import Derived.Test.YtalgdihaeglleaaPlain
namespace Go.Proofs.Ytalgdihaeglleaa
open Go.RowKit

theorem between_any (c lo hi : Int) (w : World) :
    Calls Try.prog 26 #[.int .u8 c, .int .u8 lo, .int .u8 hi] w fun e w' => e = .returned (.bool (btw c lo hi)) ∧ w = w' := by
  go_enter Try.func26, Try.ntmps26
  go_wp2
  all_goals go_ret
  all_goals exact ⟨ret_bool (by simp [btw]; omega), rfl⟩

theorem small_any (c : Int) (w : World) :
    Calls Try.prog 22 #[.int .u8 c] w fun e w' => e = .returned (.bool (smallB c)) ∧ w = w' := by
  go_enter Try.func22, Try.ntmps22
  go_wp2_with (go_at_call 26; refine (between_any _ _ _ _).mono ?_; rintro e w' ⟨rfl, rfl⟩)
  all_goals go_ret
  all_goals exact ⟨rfl, rfl⟩

theorem great_any (c : Int) (w : World) :
    Calls Try.prog 23 #[.int .u8 c] w fun e w' => e = .returned (.bool (greatB c)) ∧ w = w' := by
  go_enter Try.func23, Try.ntmps23
  go_wp2_with (go_at_call 26; refine (between_any _ _ _ _).mono ?_; rintro e w' ⟨rfl, rfl⟩)
  all_goals go_ret
  all_goals exact ⟨rfl, rfl⟩

theorem Small_any (c : Int) (h0 : 0 ≤ c) (h1 : c ≤ 255) (w : World) :
    Calls Try.prog 20 #[.int .u8 c] w fun e w' => e = .returned (.int .u8 (smallI c)) ∧ w = w' := by
  by_cases h : greatB c = true
  · have hb := btw_iff.1 h
    have hb1 := hb.1
    have hb2 := hb.2
    clear hb
    go_enter Try.func20, Try.ntmps20
    go_wp2_with (go_at_call 23; refine (great_any _ _).mono ?_; rintro e w' ⟨rfl, rfl⟩)
    all_goals go_ret
    all_goals exact ⟨ret_int (by simp [smallI, h]), rfl⟩
  · go_enter Try.func20, Try.ntmps20
    go_wp2_with (go_at_call 23; refine (great_any _ _).mono ?_; rintro e w' ⟨rfl, rfl⟩)
    all_goals go_ret
    all_goals exact ⟨ret_int (by simp [smallI, h]), rfl⟩

theorem Great_any (c : Int) (h0 : 0 ≤ c) (h1 : c ≤ 255) (w : World) :
    Calls Try.prog 19 #[.int .u8 c] w fun e w' => e = .returned (.int .u8 (greatI c)) ∧ w = w' := by
  by_cases h : smallB c = true
  · have hb := btw_iff.1 h
    have hb1 := hb.1
    have hb2 := hb.2
    clear hb
    go_enter Try.func19, Try.ntmps19
    go_wp2_with (go_at_call 22; refine (small_any _ _).mono ?_; rintro e w' ⟨rfl, rfl⟩)
    all_goals go_ret
    all_goals exact ⟨ret_int (by simp [greatI, h]), rfl⟩
  · go_enter Try.func19, Try.ntmps19
    go_wp2_with (go_at_call 22; refine (small_any _ _).mono ?_; rintro e w' ⟨rfl, rfl⟩)
    all_goals go_ret
    all_goals exact ⟨ret_int (by simp [greatI, h]), rfl⟩

theorem ret_val {a b : Value} (h : a = b) : Ending.returned a = .returned b := by rw [h]
