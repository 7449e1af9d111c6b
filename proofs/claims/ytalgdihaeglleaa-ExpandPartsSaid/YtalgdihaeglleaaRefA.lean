/- Contracts of the functions of emendatorref01, but for sets and names. -/
import Derived.Test.YtalgdihaeglleaaKind
import Derived.Lib.Hide
namespace Go.Proofs.Ytalgdihaeglleaa
open Go.RowKit

theorem rbetween_any (c lo hi : Int) (w : World) :
    Calls Try.prog 29 #[.int .u8 c, .int .u8 lo, .int .u8 hi] w fun e w' => e = .returned (.bool (btw c lo hi)) ∧ w = w' := by
  go_enter Try.func29, Try.ntmps29
  go_wp2
  all_goals go_ret
  all_goals exact ⟨ret_bool (by simp [btw]; omega), rfl⟩

theorem rsmall_any (c : Int) (w : World) :
    Calls Try.prog 27 #[.int .u8 c] w fun e w' => e = .returned (.bool (smallB c)) ∧ w = w' := by
  go_enter Try.func27, Try.ntmps27
  go_wp2_with (go_at_call 29; refine (rbetween_any _ _ _ _).mono ?_; rintro e w' ⟨rfl, rfl⟩)
  all_goals go_ret
  all_goals exact ⟨rfl, rfl⟩

theorem rgreat_any (c : Int) (w : World) :
    Calls Try.prog 28 #[.int .u8 c] w fun e w' => e = .returned (.bool (greatB c)) ∧ w = w' := by
  go_enter Try.func28, Try.ntmps28
  go_wp2_with (go_at_call 29; refine (rbetween_any _ _ _ _).mono ?_; rintro e w' ⟨rfl, rfl⟩)
  all_goals go_ret
  all_goals exact ⟨rfl, rfl⟩

theorem rSmall_any (c : Int) (h0 : 0 ≤ c) (h1 : c ≤ 255) (w : World) :
    Calls Try.prog 25 #[.int .u8 c] w fun e w' => e = .returned (.int .u8 (smallI c)) ∧ w = w' := by
  by_cases h : greatB c = true
  · have hb := btw_iff.1 h
    have hb1 := hb.1
    have hb2 := hb.2
    clear hb
    go_enter Try.func25, Try.ntmps25
    go_wp2_with (go_at_call 28; refine (rgreat_any _ _).mono ?_; rintro e w' ⟨rfl, rfl⟩)
    all_goals go_ret
    all_goals exact ⟨ret_int (by simp [smallI, h]), rfl⟩
  · go_enter Try.func25, Try.ntmps25
    go_wp2_with (go_at_call 28; refine (rgreat_any _ _).mono ?_; rintro e w' ⟨rfl, rfl⟩)
    all_goals go_ret
    all_goals exact ⟨ret_int (by simp [smallI, h]), rfl⟩

theorem rGreat_any (c : Int) (h0 : 0 ≤ c) (h1 : c ≤ 255) (w : World) :
    Calls Try.prog 24 #[.int .u8 c] w fun e w' => e = .returned (.int .u8 (greatI c)) ∧ w = w' := by
  by_cases h : smallB c = true
  · have hb := btw_iff.1 h
    have hb1 := hb.1
    have hb2 := hb.2
    clear hb
    go_enter Try.func24, Try.ntmps24
    go_wp2_with (go_at_call 27; refine (rsmall_any _ _).mono ?_; rintro e w' ⟨rfl, rfl⟩)
    all_goals go_ret
    all_goals exact ⟨ret_int (by simp [greatI, h]), rfl⟩
  · go_enter Try.func24, Try.ntmps24
    go_wp2_with (go_at_call 27; refine (rsmall_any _ _).mono ?_; rintro e w' ⟨rfl, rfl⟩)
    all_goals go_ret
    all_goals exact ⟨ret_int (by simp [greatI, h]), rfl⟩

theorem ret_two {a b c d : Bool} (h : a = c) (h' : b = d) : Ending.returned (.tuple #[.bool a, .bool b]) = .returned (.tuple #[.bool c, .bool d]) := by rw [h, h']
