/- Contracts of the functions of package kind, but for sets. -/
import Derived.Test.YtemnppfdoicmpaaProg
import Derived.Test.YtemnppfdoicmpaaPlain
namespace Go.Proofs.Ytemnppfdoicmpaa
open Go.RowKit

theorem between_any (c lo hi : Int) (w : World) :
    Calls Try.prog 52 #[.int .u8 c, .int .u8 lo, .int .u8 hi] w fun e w' => e = .returned (.bool (btw c lo hi)) ∧ w = w' := by
  go_enter Try.func52, Try.ntmps52
  go_wp2
  all_goals go_ret
  all_goals exact ⟨ret_bool (by simp [btw]; omega), rfl⟩

theorem digit_any (c : Int) (w : World) :
    Calls Try.prog 45 #[.int .u8 c] w fun e w' => e = .returned (.bool (digitB c)) ∧ w = w' := by
  go_enter Try.func45, Try.ntmps45
  go_wp2_with (go_at_call 52; refine (between_any _ _ _ _).mono ?_; rintro e w' ⟨rfl, rfl⟩)
  all_goals go_ret
  all_goals exact ⟨rfl, rfl⟩

theorem octal_any (c : Int) (w : World) :
    Calls Try.prog 47 #[.int .u8 c] w fun e w' => e = .returned (.bool (octalB c)) ∧ w = w' := by
  go_enter Try.func47, Try.ntmps47
  go_wp2_with (go_at_call 52; refine (between_any _ _ _ _).mono ?_; rintro e w' ⟨rfl, rfl⟩)
  all_goals go_ret
  all_goals exact ⟨rfl, rfl⟩

theorem small_any (c : Int) (w : World) :
    Calls Try.prog 40 #[.int .u8 c] w fun e w' => e = .returned (.bool (smallB c)) ∧ w = w' := by
  go_enter Try.func40, Try.ntmps40
  go_wp2_with (go_at_call 52; refine (between_any _ _ _ _).mono ?_; rintro e w' ⟨rfl, rfl⟩)
  all_goals go_ret
  all_goals exact ⟨rfl, rfl⟩

theorem great_any (c : Int) (w : World) :
    Calls Try.prog 37 #[.int .u8 c] w fun e w' => e = .returned (.bool (greatB c)) ∧ w = w' := by
  go_enter Try.func37, Try.ntmps37
  go_wp2_with (go_at_call 52; refine (between_any _ _ _ _).mono ?_; rintro e w' ⟨rfl, rfl⟩)
  all_goals go_ret
  all_goals exact ⟨rfl, rfl⟩

theorem letter_any (c : Int) (w : World) :
    Calls Try.prog 50 #[.int .u8 c] w fun e w' => e = .returned (.bool (letterB c)) ∧ w = w' := by
  go_enter Try.func50, Try.ntmps50
  go_wp2_with (first | (go_at_call 40; refine (small_any _ _).mono ?_; rintro e w' ⟨rfl, rfl⟩) | (go_at_call 37; refine (great_any _ _).mono ?_; rintro e w' ⟨rfl, rfl⟩))
  all_goals go_ret
  all_goals exact ⟨ret_bool (by simp_all [letterB]), rfl⟩

theorem head_any (c : Int) (w : World) :
    Calls Try.prog 49 #[.int .u8 c] w fun e w' => e = .returned (.bool (headB c)) ∧ w = w' := by
  go_enter Try.func49, Try.ntmps49
  go_wp2_with (go_at_call 50; refine (letter_any _ _).mono ?_; rintro e w' ⟨rfl, rfl⟩)
  all_goals go_ret
  all_goals exact ⟨ret_bool (by simp_all [headB]), rfl⟩

theorem word_any (c : Int) (w : World) :
    Calls Try.prog 48 #[.int .u8 c] w fun e w' => e = .returned (.bool (wordB c)) ∧ w = w' := by
  go_enter Try.func48, Try.ntmps48
  go_wp2_with (first | (go_at_call 49; refine (head_any _ _).mono ?_; rintro e w' ⟨rfl, rfl⟩) | (go_at_call 45; refine (digit_any _ _).mono ?_; rintro e w' ⟨rfl, rfl⟩))
  all_goals go_ret
  all_goals exact ⟨ret_bool (by simp_all [wordB]), rfl⟩

theorem blank_any (c : Int) (w : World) :
    Calls Try.prog 51 #[.int .u8 c] w fun e w' => e = .returned (.bool (blankB c)) ∧ w = w' := by
  go_enter Try.func51, Try.ntmps51
  go_wp2
  all_goals go_ret
  all_goals exact ⟨ret_bool (by simp_all [blankB]), rfl⟩

theorem hex_any (c : Int) (w : World) :
    Calls Try.prog 46 #[.int .u8 c] w fun e w' => e = .returned (.bool (hexB c)) ∧ w = w' := by
  go_enter Try.func46, Try.ntmps46
  go_wp2_with (first | (go_at_call 45; refine (digit_any _ _).mono ?_; rintro e w' ⟨rfl, rfl⟩) | (go_at_call 52; refine (between_any _ _ _ _).mono ?_; rintro e w' ⟨rfl, rfl⟩))
  all_goals go_ret
  all_goals exact ⟨ret_bool (by simp_all [hexB]), rfl⟩

theorem space_any (c : Int) (w : World) :
    Calls Try.prog 56 #[.int .u8 c] w fun e w' => e = .returned (.bool (spaceB c)) ∧ w = w' := by
  go_enter Try.func56, Try.ntmps56
  go_wp2_with (go_at_call 52; refine (between_any _ _ _ _).mono ?_; rintro e w' ⟨rfl, rfl⟩)
  all_goals go_ret
  all_goals exact ⟨ret_bool (by simp_all [spaceB]), rfl⟩

theorem alnum_any (c : Int) (w : World) :
    Calls Try.prog 55 #[.int .u8 c] w fun e w' => e = .returned (.bool (alnumB c)) ∧ w = w' := by
  go_enter Try.func55, Try.ntmps55
  go_wp2_with (first | (go_at_call 50; refine (letter_any _ _).mono ?_; rintro e w' ⟨rfl, rfl⟩) | (go_at_call 45; refine (digit_any _ _).mono ?_; rintro e w' ⟨rfl, rfl⟩))
  all_goals go_ret
  all_goals exact ⟨ret_bool (by simp_all [alnumB]), rfl⟩

theorem control_any (c : Int) (w : World) :
    Calls Try.prog 57 #[.int .u8 c] w fun e w' => e = .returned (.bool (controlB c)) ∧ w = w' := by
  go_enter Try.func57, Try.ntmps57
  go_wp2
  all_goals go_ret
  all_goals exact ⟨ret_bool (by simp_all [controlB]), rfl⟩

theorem punct_any (c : Int) (w : World) :
    Calls Try.prog 58 #[.int .u8 c] w fun e w' => e = .returned (.bool (punctB c)) ∧ w = w' := by
  go_enter Try.func58, Try.ntmps58
  go_wp2_with (first | (go_at_call 55; refine (alnum_any _ _).mono ?_; rintro e w' ⟨rfl, rfl⟩) | (go_at_call 52; refine (between_any _ _ _ _).mono ?_; rintro e w' ⟨rfl, rfl⟩))
  all_goals go_ret
  all_goals exact ⟨ret_bool (by simp_all [punctB]), rfl⟩

theorem Small_any (c : Int) (h0 : 0 ≤ c) (h1 : c ≤ 255) (w : World) :
    Calls Try.prog 18 #[.int .u8 c] w fun e w' => e = .returned (.int .u8 (smallI c)) ∧ w = w' := by
  by_cases h : greatB c = true
  · have hb := btw_iff.1 h
    have hb1 := hb.1
    have hb2 := hb.2
    clear hb
    go_enter Try.func18, Try.ntmps18
    go_wp2_with (go_at_call 37; refine (great_any _ _).mono ?_; rintro e w' ⟨rfl, rfl⟩)
    all_goals go_ret
    all_goals exact ⟨ret_int (by simp [smallI, h]), rfl⟩
  · go_enter Try.func18, Try.ntmps18
    go_wp2_with (go_at_call 37; refine (great_any _ _).mono ?_; rintro e w' ⟨rfl, rfl⟩)
    all_goals go_ret
    all_goals exact ⟨ret_int (by simp [smallI, h]), rfl⟩

theorem Great_any (c : Int) (h0 : 0 ≤ c) (h1 : c ≤ 255) (w : World) :
    Calls Try.prog 20 #[.int .u8 c] w fun e w' => e = .returned (.int .u8 (greatI c)) ∧ w = w' := by
  by_cases h : smallB c = true
  · have hb := btw_iff.1 h
    have hb1 := hb.1
    have hb2 := hb.2
    clear hb
    go_enter Try.func20, Try.ntmps20
    go_wp2_with (go_at_call 40; refine (small_any _ _).mono ?_; rintro e w' ⟨rfl, rfl⟩)
    all_goals go_ret
    all_goals exact ⟨ret_int (by simp [greatI, h]), rfl⟩
  · go_enter Try.func20, Try.ntmps20
    go_wp2_with (go_at_call 40; refine (small_any _ _).mono ?_; rintro e w' ⟨rfl, rfl⟩)
    all_goals go_ret
    all_goals exact ⟨ret_int (by simp [greatI, h]), rfl⟩

theorem Same_any (a b : Int) (fold : Bool) (h0 : 0 ≤ a) (h1 : a ≤ 255) (g0 : 0 ≤ b) (g1 : b ≤ 255) (w : World) :
    Calls Try.prog 22 #[.int .u8 a, .int .u8 b, .bool fold] w fun e w' => e = .returned (.bool (sameB a b fold)) ∧ w = w' := by
  go_enter Try.func22, Try.ntmps22
  go_wp2_with (go_at_call 18; refine (Small_any _ (by assumption) (by assumption) _).mono ?_; rintro e w' ⟨rfl, rfl⟩)
  all_goals go_ret
  all_goals exact ⟨ret_bool (by simp_all [sameB]), rfl⟩

/-- How a byte is asked for a class. -/
def askV (s : Int) : Value :=
  if s = 100 then .func (.func 45) #[] #[] else if s = 120 then .func (.func 46) #[] #[] else if s = 111 then .func (.func 47) #[] #[]
  else if s = 119 then .func (.func 48) #[] #[] else if s = 104 then .func (.func 49) #[] #[] else if s = 97 then .func (.func 50) #[] #[]
  else if s = 108 then .func (.func 40) #[] #[] else if s = 117 then .func (.func 37) #[] #[] else if s = 115 then .func (.func 51) #[] #[] else .nilFunc

theorem ret_val {a b : Value} (h : a = b) : Ending.returned a = .returned b := by rw [h]

theorem asks_any (k : Int) (h0 : 0 ≤ k) (h1 : k ≤ 255) (w : World) :
    Calls Try.prog 36 #[.int .u8 k] w fun e w' => e = .returned (askV (smallI k)) ∧ w = w' := by
  go_enter Try.func36, Try.ntmps36
  go_wp2_with (go_at_call 18; refine (Small_any _ (by assumption) (by assumption) _).mono ?_; rintro e w' ⟨rfl, rfl⟩)
  all_goals go_ret
  all_goals exact ⟨ret_val (by simp_all [askV]), rfl⟩
end Go.Proofs.Ytemnppfdoicmpaa
