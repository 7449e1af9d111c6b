/- The walks of the laws KindIs, KindLetters, KindWords, KindFolds. -/
import Derived.Test.YtemnppfdoicmpaaKindKnown
namespace Go.Proofs.Ytemnppfdoicmpaa
open Go.RowKit

theorem kindIs_law (k : Int) (h0 : 0 ≤ k) (h1 : k ≤ 255) (c : Int) (_g0 : 0 ≤ c) (_g1 : c ≤ 255) (w : World) :
    Calls Try.prog 4 #[.int .u8 k, .int .u8 c] w fun e w' => e = .returned (.bool true) ∧ Below w.heap.size w w' :=
  (kindIs_walk k c h0 h1 w).mono fun _ _ ⟨he, hw⟩ => ⟨he, hw ▸ Below.refl _ _⟩

theorem kindLetters_law (a : Int) (h0 : 0 ≤ a) (h1 : a ≤ 255) (b : Int) (g0 : 0 ≤ b) (g1 : b ≤ 255) (fold : Bool) (w : World) :
    Calls Try.prog 5 #[.int .u8 a, .int .u8 b, .bool fold] w fun e w' => e = .returned (.bool true) ∧ Below w.heap.size w w' :=
  (kindLetters_walk a b fold h0 h1 g0 g1 w).mono fun _ _ ⟨he, hw⟩ => ⟨he, hw ▸ Below.refl _ _⟩

theorem kindWords_law (c : Int) (_h0 : 0 ≤ c) (_h1 : c ≤ 255) (w : World) :
    Calls Try.prog 3 #[.int .u8 c] w fun e w' => e = .returned (.bool true) ∧ Below w.heap.size w w' := by
  have HW := Lib.hid (words_plain c)
  go_enter Try.func3, Try.ntmps3
  go_wp2_with (first | (go_at_call 14; refine (kknown_any _).mono ?_; rintro e w' ⟨rfl, rfl⟩) | (go_at_call 13; refine (Is_any _ _ (by decide) (by decide) _).mono ?_; rintro e w' ⟨rfl, rfl⟩))
  all_goals go_ret
  all_goals exact ⟨ret_bool (by have h := HW.out; clear HW; grind), Below.refl _ _⟩

theorem folds_plain (a b : Int) : isB 97 a = letterB a ∧ smallI (greatI a) = smallI a ∧ greatI (smallI a) = greatI a ∧ ((smallI a = greatI a) ↔ letterB a = false) ∧ (sameB a b true = (greatI a == greatI b)) ∧ (sameB a b false = (a == b)) := by
  have e1 : isB 97 a = letterB a := by show (letterB a != false) = _; simp
  refine ⟨e1, ?_, ?_, ?_, ?_, by simp [sameB]⟩
  · unfold greatI smallI smallB greatB
    simp only [btw_iff]
    repeat' split
    all_goals omega
  · unfold greatI smallI smallB greatB
    simp only [btw_iff]
    repeat' split
    all_goals omega
  · unfold greatI smallI letterB smallB greatB
    simp only [btw_iff, Bool.or_eq_false_iff, btw_not]
    repeat' split
    all_goals omega
  · rw [Bool.eq_iff_iff]
    simp only [sameB, Bool.true_and, Bool.or_eq_true, beq_iff_eq]
    unfold greatI smallI smallB greatB
    simp only [btw_iff]
    repeat' split
    all_goals omega

theorem kindFolds_law (a : Int) (h0 : 0 ≤ a) (h1 : a ≤ 255) (b : Int) (g0 : 0 ≤ b) (g1 : b ≤ 255) (w : World) :
    Calls Try.prog 6 #[.int .u8 a, .int .u8 b] w fun e w' => e = .returned (.bool true) ∧ Below w.heap.size w w' := by
  obtain ⟨e1, e2, e3, e4, e5, e6⟩ := folds_plain a b
  have s1 := smallI_rng h0 h1
  have s2 := greatI_rng h0 h1
  have s3 := s1.1
  have s4 := s1.2
  have s5 := s2.1
  have s6 := s2.2
  clear s1 s2
  have e7 : ((smallI a != greatI a) == letterB a) = true := by
    cases h : letterB a
    · have := e4.2 h; simp [this]
    · have : ¬ smallI a = greatI a := fun hh => by have := e4.1 hh; rw [h] at this; cases this
      simp [this]
  clear e4
  go_enter Try.func6, Try.ntmps6
  go_wp2_with (first | (go_at_call 14; refine (kknown_any _).mono ?_; rintro e w' ⟨rfl, rfl⟩) | (go_at_call 13; refine (Is_any _ _ (by decide) (by decide) _).mono ?_; rintro e w' ⟨rfl, rfl⟩) | (go_at_call 18; refine (Small_any _ (by assumption) (by assumption) _).mono ?_; rintro e w' ⟨rfl, rfl⟩) | (go_at_call 20; refine (Great_any _ (by assumption) (by assumption) _).mono ?_; rintro e w' ⟨rfl, rfl⟩) | (go_at_call 22; refine (Same_any _ _ _ (by assumption) (by assumption) (by assumption) (by assumption) _).mono ?_; rintro e w' ⟨rfl, rfl⟩))
  all_goals go_ret
  all_goals exact ⟨ret_bool (by simp_all), Below.refl _ _⟩
end Go.Proofs.Ytemnppfdoicmpaa
