/- The chapter's examples hold. -/
import Derived.Test.YtemnppfdoicmpaaKindC
import Derived.Test.YtemnppfdoicmpaaRefA
namespace Go.Proofs.Ytemnppfdoicmpaa
open Go.RowKit

theorem kknown_any (w : World) :
    Calls Try.prog 14 #[] w fun e w' => e = .returned (.bool true) ∧ w = w' := by
  have e1 : isB 119 95 = true := by decide
  have e2 : isB 87 95 = false := by decide
  have e3 : knownB (smallI 122) = false := by decide
  have e4 : smallI 81 = 113 := by decide
  have e5 : sameB 97 65 true = true := by decide
  have e6 : sameB 97 65 false = false := by decide
  go_enter Try.func14, Try.ntmps14
  go_wp2_with (first | (go_at_call 13; refine (Is_any _ _ (by decide) (by decide) _).mono ?_; rintro e w' ⟨rfl, rfl⟩) | (go_at_call 16; refine (Known_any _ (by decide) (by decide) _).mono ?_; rintro e w' ⟨rfl, rfl⟩) | (go_at_call 18; refine (Small_any _ (by decide) (by decide) _).mono ?_; rintro e w' ⟨rfl, rfl⟩) | (go_at_call 22; refine (Same_any _ _ _ (by decide) (by decide) (by decide) (by decide) _).mono ?_; rintro e w' ⟨rfl, rfl⟩))
  all_goals go_ret
  all_goals exact ⟨rfl, rfl⟩

theorem kindIs_walk (k c : Int) (h0 : 0 ≤ k) (h1 : k ≤ 255) (w : World) :
    Calls Try.prog 4 #[.int .u8 k, .int .u8 c] w fun e w' => e = .returned (.bool true) ∧ w = w' := by
  go_enter Try.func4, Try.ntmps4
  go_wp2_with (first | (go_at_call 14; refine (kknown_any _).mono ?_; rintro e w' ⟨rfl, rfl⟩) | (go_at_call 13; refine (Is_any _ _ (by assumption) (by assumption) _).mono ?_; rintro e w' ⟨rfl, rfl⟩) | (go_at_call 16; refine (Known_any _ (by assumption) (by assumption) _).mono ?_; rintro e w' ⟨rfl, rfl⟩) | (go_at_call 15; refine (rIs_any _ _ (by assumption) (by assumption) _).mono ?_; rintro e w' ⟨rfl, rfl⟩) | (go_at_call 17; refine (rKnown_any _ (by assumption) (by assumption) _).mono ?_; rintro e w' ⟨rfl, rfl⟩))
  all_goals go_ret
  all_goals exact ⟨ret_bool (by simp), rfl⟩

theorem kindLetters_walk (a b : Int) (fold : Bool) (h0 : 0 ≤ a) (h1 : a ≤ 255) (g0 : 0 ≤ b) (g1 : b ≤ 255) (w : World) :
    Calls Try.prog 5 #[.int .u8 a, .int .u8 b, .bool fold] w fun e w' => e = .returned (.bool true) ∧ w = w' := by
  go_enter Try.func5, Try.ntmps5
  go_wp2_with (first | (go_at_call 14; refine (kknown_any _).mono ?_; rintro e w' ⟨rfl, rfl⟩) | (go_at_call 18; refine (Small_any _ (by assumption) (by assumption) _).mono ?_; rintro e w' ⟨rfl, rfl⟩) | (go_at_call 20; refine (Great_any _ (by assumption) (by assumption) _).mono ?_; rintro e w' ⟨rfl, rfl⟩) | (go_at_call 22; refine (Same_any _ _ _ (by assumption) (by assumption) (by assumption) (by assumption) _).mono ?_; rintro e w' ⟨rfl, rfl⟩) | (go_at_call 19; refine (rSmall_any _ (by assumption) (by assumption) _).mono ?_; rintro e w' ⟨rfl, rfl⟩) | (go_at_call 21; refine (rGreat_any _ (by assumption) (by assumption) _).mono ?_; rintro e w' ⟨rfl, rfl⟩) | (go_at_call 23; refine (rSame_any _ _ _ (by assumption) (by assumption) (by assumption) (by assumption) _).mono ?_; rintro e w' ⟨rfl, rfl⟩))
  all_goals go_ret
  all_goals exact ⟨ret_bool (by simp), rfl⟩

/-- Whether a byte is a head, a word, a digit ..: what the classes have to do with one another. -/
theorem words_plain (c : Int) : (isB 97 c = true → isB 104 c = true) ∧ (isB 104 c = true → isB 119 c = true) ∧ (isB 100 c = true → isB 119 c = true ∧ isB 104 c = false) ∧ (isB 119 c = (isB 104 c || isB 100 c)) ∧ (isB 111 c = true → isB 100 c = true) ∧ (isB 100 c = true → isB 120 c = true) ∧ (isB 115 c = true → isB 119 c = false) := by
  have e1 : isB 97 c = letterB c := by show (letterB c != false) = _; simp
  have e2 : isB 104 c = headB c := by show (headB c != false) = _; simp
  have e3 : isB 119 c = wordB c := by show (wordB c != false) = _; simp
  have e4 : isB 100 c = digitB c := by show (digitB c != false) = _; simp
  have e5 : isB 111 c = octalB c := by show (octalB c != false) = _; simp
  have e6 : isB 120 c = hexB c := by show (hexB c != false) = _; simp
  have e7 : isB 115 c = blankB c := by show (blankB c != false) = _; simp
  rw [e1, e2, e3, e4, e5, e6, e7]
  simp only [hexB, blankB, wordB, headB, letterB, digitB, octalB, smallB, greatB, btw, Bool.or_eq_true, Bool.and_eq_true, decide_eq_true_eq, beq_iff_eq, Bool.or_eq_false_iff, Bool.and_eq_false_iff, decide_eq_false_iff_not, beq_eq_false_iff_ne]
  refine ⟨by omega, by omega, by omega, trivial, by omega, by omega, by omega⟩
end Go.Proofs.Ytemnppfdoicmpaa
