/- Contracts of the functions of emendatorref01, but for sets and names. -/
import Derived.Test.YtemnppfdoicmpaaKindB
namespace Go.Proofs.Ytemnppfdoicmpaa
open Go.RowKit

theorem rbetween_any (c lo hi : Int) (w : World) :
    Calls Try.prog 54 #[.int .u8 c, .int .u8 lo, .int .u8 hi] w fun e w' => e = .returned (.bool (btw c lo hi)) ∧ w = w' := by
  go_enter Try.func54, Try.ntmps54
  go_wp2
  all_goals go_ret
  all_goals exact ⟨ret_bool (by simp [btw]; omega), rfl⟩

theorem rsmall_any (c : Int) (w : World) :
    Calls Try.prog 41 #[.int .u8 c] w fun e w' => e = .returned (.bool (smallB c)) ∧ w = w' := by
  go_enter Try.func41, Try.ntmps41
  go_wp2_with (go_at_call 54; refine (rbetween_any _ _ _ _).mono ?_; rintro e w' ⟨rfl, rfl⟩)
  all_goals go_ret
  all_goals exact ⟨rfl, rfl⟩

theorem rgreat_any (c : Int) (w : World) :
    Calls Try.prog 39 #[.int .u8 c] w fun e w' => e = .returned (.bool (greatB c)) ∧ w = w' := by
  go_enter Try.func39, Try.ntmps39
  go_wp2_with (go_at_call 54; refine (rbetween_any _ _ _ _).mono ?_; rintro e w' ⟨rfl, rfl⟩)
  all_goals go_ret
  all_goals exact ⟨rfl, rfl⟩

theorem rSmall_any (c : Int) (h0 : 0 ≤ c) (h1 : c ≤ 255) (w : World) :
    Calls Try.prog 19 #[.int .u8 c] w fun e w' => e = .returned (.int .u8 (smallI c)) ∧ w = w' := by
  by_cases h : greatB c = true
  · have hb := btw_iff.1 h
    have hb1 := hb.1
    have hb2 := hb.2
    clear hb
    go_enter Try.func19, Try.ntmps19
    go_wp2_with (go_at_call 39; refine (rgreat_any _ _).mono ?_; rintro e w' ⟨rfl, rfl⟩)
    all_goals go_ret
    all_goals exact ⟨ret_int (by simp [smallI, h]), rfl⟩
  · go_enter Try.func19, Try.ntmps19
    go_wp2_with (go_at_call 39; refine (rgreat_any _ _).mono ?_; rintro e w' ⟨rfl, rfl⟩)
    all_goals go_ret
    all_goals exact ⟨ret_int (by simp [smallI, h]), rfl⟩

theorem rGreat_any (c : Int) (h0 : 0 ≤ c) (h1 : c ≤ 255) (w : World) :
    Calls Try.prog 21 #[.int .u8 c] w fun e w' => e = .returned (.int .u8 (greatI c)) ∧ w = w' := by
  by_cases h : smallB c = true
  · have hb := btw_iff.1 h
    have hb1 := hb.1
    have hb2 := hb.2
    clear hb
    go_enter Try.func21, Try.ntmps21
    go_wp2_with (go_at_call 41; refine (rsmall_any _ _).mono ?_; rintro e w' ⟨rfl, rfl⟩)
    all_goals go_ret
    all_goals exact ⟨ret_int (by simp [greatI, h]), rfl⟩
  · go_enter Try.func21, Try.ntmps21
    go_wp2_with (go_at_call 41; refine (rsmall_any _ _).mono ?_; rintro e w' ⟨rfl, rfl⟩)
    all_goals go_ret
    all_goals exact ⟨ret_int (by simp [greatI, h]), rfl⟩

theorem rSame_any (a b : Int) (fold : Bool) (h0 : 0 ≤ a) (h1 : a ≤ 255) (g0 : 0 ≤ b) (g1 : b ≤ 255) (w : World) :
    Calls Try.prog 23 #[.int .u8 a, .int .u8 b, .bool fold] w fun e w' => e = .returned (.bool (sameB a b fold)) ∧ w = w' := by
  go_enter Try.func23, Try.ntmps23
  go_wp2_with (go_at_call 19; refine (rSmall_any _ (by assumption) (by assumption) _).mono ?_; rintro e w' ⟨rfl, rfl⟩)
  all_goals go_ret
  all_goals exact ⟨ret_bool (by simp_all [sameB]), rfl⟩

theorem rdigit_any (c : Int) (w : World) :
    Calls Try.prog 53 #[.int .u8 c] w fun e w' => e = .returned (.bool (digitB c)) ∧ w = w' := by
  go_enter Try.func53, Try.ntmps53
  go_wp2_with (go_at_call 54; refine (rbetween_any _ _ _ _).mono ?_; rintro e w' ⟨rfl, rfl⟩)
  all_goals go_ret
  all_goals exact ⟨rfl, rfl⟩

theorem ret_two {a b c d : Bool} (h : a = c) (h' : b = d) : Ending.returned (.tuple #[.bool a, .bool b]) = .returned (.tuple #[.bool c, .bool d]) := by rw [h, h']

theorem plain_any (s c : Int) (w : World) :
    Calls Try.prog 38 #[.int .u8 s, .int .u8 c] w fun e w' => e = .returned (.tuple #[.bool (plainB s c), .bool (knownB s)]) ∧ w = w' := by
  rcases letters s with h | h | h | h | h | h | h | h | h | h
  iterate 9
    · subst h
      go_enter Try.func38, Try.ntmps38
      go_wp2_with (first | (go_at_call 54; refine (rbetween_any _ _ _ _).mono ?_; rintro e w' ⟨rfl, rfl⟩) | (go_at_call 53; refine (rdigit_any _ _).mono ?_; rintro e w' ⟨rfl, rfl⟩) | (go_at_call 41; refine (rsmall_any _ _).mono ?_; rintro e w' ⟨rfl, rfl⟩) | (go_at_call 39; refine (rgreat_any _ _).mono ?_; rintro e w' ⟨rfl, rfl⟩))
      all_goals go_ret2
      all_goals exact ⟨ret_two (by simp_all [plainB, hexB, octalB, wordB, headB, letterB, blankB]) rfl, rfl⟩
  · have hn := h
    simp [knownB] at hn
    obtain ⟨⟨⟨⟨⟨⟨⟨⟨n1, n2⟩, n3⟩, n4⟩, n5⟩, n6⟩, n7⟩, n8⟩, n9⟩ := hn
    have H := Lib.hid h; clear h
    go_enter Try.func38, Try.ntmps38
    go_wp2
    all_goals go_ret2
    all_goals exact ⟨ret_two (by rw [plainB_none H.out]) (by rw [H.out]), rfl⟩

theorem rIs_any (k c : Int) (h0 : 0 ≤ k) (h1 : k ≤ 255) (w : World) :
    Calls Try.prog 15 #[.int .u8 k, .int .u8 c] w fun e w' => e = .returned (.bool (isB k c)) ∧ w = w' := by
  go_enter Try.func15, Try.ntmps15
  go_wp2_with (first | (go_at_call 19; refine (rSmall_any _ (by assumption) (by assumption) _).mono ?_; rintro e w' ⟨rfl, rfl⟩) | (go_at_call 38; refine (plain_any _ _ _).mono ?_; rintro e w' ⟨rfl, rfl⟩) | (go_at_call 39; refine (rgreat_any _ _).mono ?_; rintro e w' ⟨rfl, rfl⟩))
  all_goals go_ret
  all_goals exact ⟨ret_bool (by simp_all [isB]), rfl⟩

theorem rKnown_any (k : Int) (h0 : 0 ≤ k) (h1 : k ≤ 255) (w : World) :
    Calls Try.prog 17 #[.int .u8 k] w fun e w' => e = .returned (.bool (knownB (smallI k))) ∧ w = w' := by
  go_enter Try.func17, Try.ntmps17
  go_wp2_with (first | (go_at_call 19; refine (rSmall_any _ (by assumption) (by assumption) _).mono ?_; rintro e w' ⟨rfl, rfl⟩) | (go_at_call 38; refine (plain_any _ _ _).mono ?_; rintro e w' ⟨rfl, rfl⟩))
  all_goals go_ret
  all_goals exact ⟨rfl, rfl⟩
end Go.Proofs.Ytemnppfdoicmpaa
