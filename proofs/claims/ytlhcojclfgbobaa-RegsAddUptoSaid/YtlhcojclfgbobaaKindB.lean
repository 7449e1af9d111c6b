/- Contracts of kind.Is and kind.Known. -/
import Derived.Test.YtlhcojclfgbobaaKind
import Derived.Lib.Hide
namespace Go.Proofs.Ytlhcojclfgbobaa
open Go.RowKit

theorem askV_none {s : Int} (h : knownB s = false) : askV s = .nilFunc := by
  simp [knownB] at h
  simp [askV, h]

theorem neq_func (f : Fn) (a b : Array Value) (w : World) : (Go.binOp .neq 74 (.func f a b) .nilFunc).run Try.prog w = .ok (.bool true) w := by
  kernel_rfl
theorem neq_nil (w : World) : (Go.binOp .neq 74 .nilFunc .nilFunc).run Try.prog w = .ok (.bool false) w := by
  kernel_rfl
attribute [local go_sem] neq_func neq_nil

theorem asks_of (k : Int) (v : Value) (h0 : 0 ≤ k) (h1 : k ≤ 255) (h : askV (smallI k) = v) (w : World) :
    Calls Try.prog 43 #[.int .u8 k] w fun e w' => e = .returned v ∧ w = w' := by
  subst h; exact asks_any k h0 h1 w

theorem is_close {k c : Int} {s : Int} {b : Bool} (hs : smallI k = s) (h : (knownB s && (plainB s c != greatB k)) = b) : isB k c = b := by rw [isB, hs]; exact h

theorem Is_digit (k c : Int) (h0 : 0 ≤ k) (h1 : k ≤ 255) (h : smallI k = 100) (w : World) :
    Calls Try.prog 29 #[.int .u8 k, .int .u8 c] w fun e w' => e = .returned (.bool (isB k c)) ∧ w = w' := by
  have hi : isB k c = (digitB c != greatB k) := by rw [isB, h]; rfl
  have Ha := Lib.hid (fun w => asks_of k (.func (.func 53) #[] #[]) h0 h1 (by rw [h]; rfl) w)
  rw [hi]
  clear h hi
  go_enter Try.func29, Try.ntmps29
  go_wp2_with (first | (go_at_call 43; refine (Ha.out _).mono ?_; rintro e w' ⟨rfl, rfl⟩) | (go_at_call 53; refine (digit_any _ _).mono ?_; rintro e w' ⟨rfl, rfl⟩) | (go_at_call 42; refine (great_any _ _).mono ?_; rintro e w' ⟨rfl, rfl⟩))
  all_goals go_ret
  all_goals exact ⟨rfl, rfl⟩

theorem Is_hex (k c : Int) (h0 : 0 ≤ k) (h1 : k ≤ 255) (h : smallI k = 120) (w : World) :
    Calls Try.prog 29 #[.int .u8 k, .int .u8 c] w fun e w' => e = .returned (.bool (isB k c)) ∧ w = w' := by
  have hi : isB k c = (hexB c != greatB k) := by rw [isB, h]; rfl
  have Ha := Lib.hid (fun w => asks_of k (.func (.func 54) #[] #[]) h0 h1 (by rw [h]; rfl) w)
  rw [hi]
  clear h hi
  go_enter Try.func29, Try.ntmps29
  go_wp2_with (first | (go_at_call 43; refine (Ha.out _).mono ?_; rintro e w' ⟨rfl, rfl⟩) | (go_at_call 54; refine (hex_any _ _).mono ?_; rintro e w' ⟨rfl, rfl⟩) | (go_at_call 42; refine (great_any _ _).mono ?_; rintro e w' ⟨rfl, rfl⟩))
  all_goals go_ret
  all_goals exact ⟨rfl, rfl⟩

theorem Is_octal (k c : Int) (h0 : 0 ≤ k) (h1 : k ≤ 255) (h : smallI k = 111) (w : World) :
    Calls Try.prog 29 #[.int .u8 k, .int .u8 c] w fun e w' => e = .returned (.bool (isB k c)) ∧ w = w' := by
  have hi : isB k c = (octalB c != greatB k) := by rw [isB, h]; rfl
  have Ha := Lib.hid (fun w => asks_of k (.func (.func 55) #[] #[]) h0 h1 (by rw [h]; rfl) w)
  rw [hi]
  clear h hi
  go_enter Try.func29, Try.ntmps29
  go_wp2_with (first | (go_at_call 43; refine (Ha.out _).mono ?_; rintro e w' ⟨rfl, rfl⟩) | (go_at_call 55; refine (octal_any _ _).mono ?_; rintro e w' ⟨rfl, rfl⟩) | (go_at_call 42; refine (great_any _ _).mono ?_; rintro e w' ⟨rfl, rfl⟩))
  all_goals go_ret
  all_goals exact ⟨rfl, rfl⟩

theorem Is_word (k c : Int) (h0 : 0 ≤ k) (h1 : k ≤ 255) (h : smallI k = 119) (w : World) :
    Calls Try.prog 29 #[.int .u8 k, .int .u8 c] w fun e w' => e = .returned (.bool (isB k c)) ∧ w = w' := by
  have hi : isB k c = (wordB c != greatB k) := by rw [isB, h]; rfl
  have Ha := Lib.hid (fun w => asks_of k (.func (.func 56) #[] #[]) h0 h1 (by rw [h]; rfl) w)
  rw [hi]
  clear h hi
  go_enter Try.func29, Try.ntmps29
  go_wp2_with (first | (go_at_call 43; refine (Ha.out _).mono ?_; rintro e w' ⟨rfl, rfl⟩) | (go_at_call 56; refine (word_any _ _).mono ?_; rintro e w' ⟨rfl, rfl⟩) | (go_at_call 42; refine (great_any _ _).mono ?_; rintro e w' ⟨rfl, rfl⟩))
  all_goals go_ret
  all_goals exact ⟨rfl, rfl⟩

theorem Is_head (k c : Int) (h0 : 0 ≤ k) (h1 : k ≤ 255) (h : smallI k = 104) (w : World) :
    Calls Try.prog 29 #[.int .u8 k, .int .u8 c] w fun e w' => e = .returned (.bool (isB k c)) ∧ w = w' := by
  have hi : isB k c = (headB c != greatB k) := by rw [isB, h]; rfl
  have Ha := Lib.hid (fun w => asks_of k (.func (.func 57) #[] #[]) h0 h1 (by rw [h]; rfl) w)
  rw [hi]
  clear h hi
  go_enter Try.func29, Try.ntmps29
  go_wp2_with (first | (go_at_call 43; refine (Ha.out _).mono ?_; rintro e w' ⟨rfl, rfl⟩) | (go_at_call 57; refine (head_any _ _).mono ?_; rintro e w' ⟨rfl, rfl⟩) | (go_at_call 42; refine (great_any _ _).mono ?_; rintro e w' ⟨rfl, rfl⟩))
  all_goals go_ret
  all_goals exact ⟨rfl, rfl⟩

theorem Is_letter (k c : Int) (h0 : 0 ≤ k) (h1 : k ≤ 255) (h : smallI k = 97) (w : World) :
    Calls Try.prog 29 #[.int .u8 k, .int .u8 c] w fun e w' => e = .returned (.bool (isB k c)) ∧ w = w' := by
  have hi : isB k c = (letterB c != greatB k) := by rw [isB, h]; rfl
  have Ha := Lib.hid (fun w => asks_of k (.func (.func 58) #[] #[]) h0 h1 (by rw [h]; rfl) w)
  rw [hi]
  clear h hi
  go_enter Try.func29, Try.ntmps29
  go_wp2_with (first | (go_at_call 43; refine (Ha.out _).mono ?_; rintro e w' ⟨rfl, rfl⟩) | (go_at_call 58; refine (letter_any _ _).mono ?_; rintro e w' ⟨rfl, rfl⟩) | (go_at_call 42; refine (great_any _ _).mono ?_; rintro e w' ⟨rfl, rfl⟩))
  all_goals go_ret
  all_goals exact ⟨rfl, rfl⟩

theorem Is_small (k c : Int) (h0 : 0 ≤ k) (h1 : k ≤ 255) (h : smallI k = 108) (w : World) :
    Calls Try.prog 29 #[.int .u8 k, .int .u8 c] w fun e w' => e = .returned (.bool (isB k c)) ∧ w = w' := by
  have hi : isB k c = (smallB c != greatB k) := by rw [isB, h]; rfl
  have Ha := Lib.hid (fun w => asks_of k (.func (.func 59) #[] #[]) h0 h1 (by rw [h]; rfl) w)
  rw [hi]
  clear h hi
  go_enter Try.func29, Try.ntmps29
  go_wp2_with (first | (go_at_call 43; refine (Ha.out _).mono ?_; rintro e w' ⟨rfl, rfl⟩) | (go_at_call 59; refine (small_any _ _).mono ?_; rintro e w' ⟨rfl, rfl⟩) | (go_at_call 42; refine (great_any _ _).mono ?_; rintro e w' ⟨rfl, rfl⟩))
  all_goals go_ret
  all_goals exact ⟨rfl, rfl⟩

theorem Is_great (k c : Int) (h0 : 0 ≤ k) (h1 : k ≤ 255) (h : smallI k = 117) (w : World) :
    Calls Try.prog 29 #[.int .u8 k, .int .u8 c] w fun e w' => e = .returned (.bool (isB k c)) ∧ w = w' := by
  have hi : isB k c = (greatB c != greatB k) := by rw [isB, h]; rfl
  have Ha := Lib.hid (fun w => asks_of k (.func (.func 42) #[] #[]) h0 h1 (by rw [h]; rfl) w)
  rw [hi]
  clear h hi
  go_enter Try.func29, Try.ntmps29
  go_wp2_with (first | (go_at_call 43; refine (Ha.out _).mono ?_; rintro e w' ⟨rfl, rfl⟩) | (go_at_call 42; refine (great_any _ _).mono ?_; rintro e w' ⟨rfl, rfl⟩))
  all_goals go_ret
  all_goals exact ⟨rfl, rfl⟩

theorem Is_blank (k c : Int) (h0 : 0 ≤ k) (h1 : k ≤ 255) (h : smallI k = 115) (w : World) :
    Calls Try.prog 29 #[.int .u8 k, .int .u8 c] w fun e w' => e = .returned (.bool (isB k c)) ∧ w = w' := by
  have hi : isB k c = (blankB c != greatB k) := by rw [isB, h]; rfl
  have Ha := Lib.hid (fun w => asks_of k (.func (.func 60) #[] #[]) h0 h1 (by rw [h]; rfl) w)
  rw [hi]
  clear h hi
  go_enter Try.func29, Try.ntmps29
  go_wp2_with (first | (go_at_call 43; refine (Ha.out _).mono ?_; rintro e w' ⟨rfl, rfl⟩) | (go_at_call 60; refine (blank_any _ _).mono ?_; rintro e w' ⟨rfl, rfl⟩) | (go_at_call 42; refine (great_any _ _).mono ?_; rintro e w' ⟨rfl, rfl⟩))
  all_goals go_ret
  all_goals exact ⟨rfl, rfl⟩

theorem Is_none (k c : Int) (h0 : 0 ≤ k) (h1 : k ≤ 255) (h : knownB (smallI k) = false) (w : World) :
    Calls Try.prog 29 #[.int .u8 k, .int .u8 c] w fun e w' => e = .returned (.bool (isB k c)) ∧ w = w' := by
  have hi : isB k c = false := by rw [isB, h]; rfl
  have Ha := Lib.hid (fun w => asks_of k .nilFunc h0 h1 (askV_none h) w)
  rw [hi]
  clear h hi
  go_enter Try.func29, Try.ntmps29
  go_wp2_with (go_at_call 43; refine (Ha.out _).mono ?_; rintro e w' ⟨rfl, rfl⟩)
  all_goals go_ret
  all_goals exact ⟨rfl, rfl⟩

theorem Is_any (k c : Int) (h0 : 0 ≤ k) (h1 : k ≤ 255) (w : World) :
    Calls Try.prog 29 #[.int .u8 k, .int .u8 c] w fun e w' => e = .returned (.bool (isB k c)) ∧ w = w' := by
  rcases letters (smallI k) with h | h | h | h | h | h | h | h | h | h
  · exact Is_digit k c h0 h1 h w
  · exact Is_hex k c h0 h1 h w
  · exact Is_octal k c h0 h1 h w
  · exact Is_word k c h0 h1 h w
  · exact Is_head k c h0 h1 h w
  · exact Is_letter k c h0 h1 h w
  · exact Is_small k c h0 h1 h w
  · exact Is_great k c h0 h1 h w
  · exact Is_blank k c h0 h1 h w
  · exact Is_none k c h0 h1 h w

end Go.Proofs.Ytlhcojclfgbobaa
