/- Lemmas that the law's proof stands on, part 1: Plain, Kind, KindB, KindC, KindD, RefB, KindE, KindF, RefA, Quiet. No condition. -/
import Derived.Test.YtigbfgmgdfnhcaaBaseA0
import Derived.BigQuiet
import Derived.Lib.Hide
import Derived.Test.YtigbfgmgdfnhcaaProg
import Derived.WalkKit
import Derived.WalkSpells
set_option linter.all false
set_option linter.unusedVariables false
set_option linter.unusedSimpArgs false
namespace Go.Proofs.Ytigbfgmgdfnhcaa
open Go.RowKit
theorem ret_bool {a b : Bool} (h : a = b) : Ending.returned (.bool a) = .returned (.bool b) := by rw [h]
theorem ret_int {k : IntKind} {a b : Int} (h : a = b) : Ending.returned (.int k a) = .returned (.int k b) := by rw [h]
def btw (c lo hi : Int) : Bool := decide (lo ≤ c) && decide (c ≤ hi)
def smallB (c : Int) : Bool := btw c 97 122
def greatB (c : Int) : Bool := btw c 65 90
def digitB (c : Int) : Bool := btw c 48 57
def octalB (c : Int) : Bool := btw c 48 55
def letterB (c : Int) : Bool := smallB c || greatB c
def headB (c : Int) : Bool := letterB c || c == 95
def wordB (c : Int) : Bool := headB c || digitB c
def blankB (c : Int) : Bool := c == 32 || c == 9
def hexB (c : Int) : Bool := digitB c || btw c 97 102 || btw c 65 70
def spaceB (c : Int) : Bool := c == 32 || btw c 9 13
def alnumB (c : Int) : Bool := letterB c || digitB c
def controlB (c : Int) : Bool := decide (c < 32) || c == 127
def punctB (c : Int) : Bool := btw c 33 126 && !alnumB c
def smallI (c : Int) : Int := if greatB c = true then c + 32 else c
def greatI (c : Int) : Int := if smallB c = true then c - 32 else c
def sameB (a b : Int) (fold : Bool) : Bool := a == b || fold && smallI a == smallI b
/-- The class of a small letter. -/
def plainB (s c : Int) : Bool :=
  if s = 100 then digitB c else if s = 120 then hexB c else if s = 111 then octalB c else if s = 119 then wordB c else if s = 104 then headB c
  else if s = 97 then letterB c else if s = 108 then smallB c else if s = 117 then greatB c else if s = 115 then blankB c else false
def knownB (s : Int) : Bool := s == 100 || s == 120 || s == 111 || s == 119 || s == 104 || s == 97 || s == 108 || s == 117 || s == 115
def isB (k c : Int) : Bool := knownB (smallI k) && (plainB (smallI k) c != greatB k)
theorem btw_iff {c lo hi : Int} : btw c lo hi = true ↔ lo ≤ c ∧ c ≤ hi := by simp [btw]
/-- The letters of classes, or none. -/
theorem letters (s : Int) : s = 100 ∨ s = 120 ∨ s = 111 ∨ s = 119 ∨ s = 104 ∨ s = 97 ∨ s = 108 ∨ s = 117 ∨ s = 115 ∨ knownB s = false := by
  unfold knownB; simp; omega
theorem plainB_none {s c : Int} (h : knownB s = false) : plainB s c = false := by
  simp [knownB] at h
  simp [plainB, h]
end Go.Proofs.Ytigbfgmgdfnhcaa
namespace Go.Proofs.Ytigbfgmgdfnhcaa
open Go.RowKit
theorem between_any (c lo hi : Int) (w : World) :
    Calls Try.prog 85 #[.int .u8 c, .int .u8 lo, .int .u8 hi] w fun e w' => e = .returned (.bool (btw c lo hi)) ∧ w = w' := by
  go_enter Try.func85, Try.ntmps85
  go_wp2
  all_goals go_ret
  all_goals exact ⟨ret_bool (by simp [btw]; omega), rfl⟩
theorem digit_any (c : Int) (w : World) :
    Calls Try.prog 94 #[.int .u8 c] w fun e w' => e = .returned (.bool (digitB c)) ∧ w = w' := by
  go_enter Try.func94, Try.ntmps94
  go_wp2_with (go_at_call 85; refine (between_any _ _ _ _).mono ?_; rintro e w' ⟨rfl, rfl⟩)
  all_goals go_ret
  all_goals exact ⟨rfl, rfl⟩
theorem octal_any (c : Int) (w : World) :
    Calls Try.prog 96 #[.int .u8 c] w fun e w' => e = .returned (.bool (octalB c)) ∧ w = w' := by
  go_enter Try.func96, Try.ntmps96
  go_wp2_with (go_at_call 85; refine (between_any _ _ _ _).mono ?_; rintro e w' ⟨rfl, rfl⟩)
  all_goals go_ret
  all_goals exact ⟨rfl, rfl⟩
theorem small_any (c : Int) (w : World) :
    Calls Try.prog 72 #[.int .u8 c] w fun e w' => e = .returned (.bool (smallB c)) ∧ w = w' := by
  go_enter Try.func72, Try.ntmps72
  go_wp2_with (go_at_call 85; refine (between_any _ _ _ _).mono ?_; rintro e w' ⟨rfl, rfl⟩)
  all_goals go_ret
  all_goals exact ⟨rfl, rfl⟩
theorem great_any (c : Int) (w : World) :
    Calls Try.prog 71 #[.int .u8 c] w fun e w' => e = .returned (.bool (greatB c)) ∧ w = w' := by
  go_enter Try.func71, Try.ntmps71
  go_wp2_with (go_at_call 85; refine (between_any _ _ _ _).mono ?_; rintro e w' ⟨rfl, rfl⟩)
  all_goals go_ret
  all_goals exact ⟨rfl, rfl⟩
theorem letter_any (c : Int) (w : World) :
    Calls Try.prog 99 #[.int .u8 c] w fun e w' => e = .returned (.bool (letterB c)) ∧ w = w' := by
  go_enter Try.func99, Try.ntmps99
  go_wp2_with (first | (go_at_call 72; refine (small_any _ _).mono ?_; rintro e w' ⟨rfl, rfl⟩) | (go_at_call 71; refine (great_any _ _).mono ?_; rintro e w' ⟨rfl, rfl⟩))
  all_goals go_ret
  all_goals exact ⟨ret_bool (by simp_all [letterB]), rfl⟩
theorem head_any (c : Int) (w : World) :
    Calls Try.prog 98 #[.int .u8 c] w fun e w' => e = .returned (.bool (headB c)) ∧ w = w' := by
  go_enter Try.func98, Try.ntmps98
  go_wp2_with (go_at_call 99; refine (letter_any _ _).mono ?_; rintro e w' ⟨rfl, rfl⟩)
  all_goals go_ret
  all_goals exact ⟨ret_bool (by simp_all [headB]), rfl⟩
theorem word_any (c : Int) (w : World) :
    Calls Try.prog 97 #[.int .u8 c] w fun e w' => e = .returned (.bool (wordB c)) ∧ w = w' := by
  go_enter Try.func97, Try.ntmps97
  go_wp2_with (first | (go_at_call 98; refine (head_any _ _).mono ?_; rintro e w' ⟨rfl, rfl⟩) | (go_at_call 94; refine (digit_any _ _).mono ?_; rintro e w' ⟨rfl, rfl⟩))
  all_goals go_ret
  all_goals exact ⟨ret_bool (by simp_all [wordB]), rfl⟩
theorem blank_any (c : Int) (w : World) :
    Calls Try.prog 100 #[.int .u8 c] w fun e w' => e = .returned (.bool (blankB c)) ∧ w = w' := by
  go_enter Try.func100, Try.ntmps100
  go_wp2
  all_goals go_ret
  all_goals exact ⟨ret_bool (by simp_all [blankB]), rfl⟩
theorem hex_any (c : Int) (w : World) :
    Calls Try.prog 95 #[.int .u8 c] w fun e w' => e = .returned (.bool (hexB c)) ∧ w = w' := by
  go_enter Try.func95, Try.ntmps95
  go_wp2_with (first | (go_at_call 94; refine (digit_any _ _).mono ?_; rintro e w' ⟨rfl, rfl⟩) | (go_at_call 85; refine (between_any _ _ _ _).mono ?_; rintro e w' ⟨rfl, rfl⟩))
  all_goals go_ret
  all_goals exact ⟨ret_bool (by simp_all [hexB]), rfl⟩
theorem Small_any (c : Int) (h0 : 0 ≤ c) (h1 : c ≤ 255) (w : World) :
    Calls Try.prog 58 #[.int .u8 c] w fun e w' => e = .returned (.int .u8 (smallI c)) ∧ w = w' := by
  by_cases h : greatB c = true
  · have hb := btw_iff.1 h
    have hb1 := hb.1
    have hb2 := hb.2
    clear hb
    go_enter Try.func58, Try.ntmps58
    go_wp2_with (go_at_call 71; refine (great_any _ _).mono ?_; rintro e w' ⟨rfl, rfl⟩)
    all_goals go_ret
    all_goals exact ⟨ret_int (by simp [smallI, h]), rfl⟩
  · go_enter Try.func58, Try.ntmps58
    go_wp2_with (go_at_call 71; refine (great_any _ _).mono ?_; rintro e w' ⟨rfl, rfl⟩)
    all_goals go_ret
    all_goals exact ⟨ret_int (by simp [smallI, h]), rfl⟩
theorem Great_any (c : Int) (h0 : 0 ≤ c) (h1 : c ≤ 255) (w : World) :
    Calls Try.prog 59 #[.int .u8 c] w fun e w' => e = .returned (.int .u8 (greatI c)) ∧ w = w' := by
  by_cases h : smallB c = true
  · have hb := btw_iff.1 h
    have hb1 := hb.1
    have hb2 := hb.2
    clear hb
    go_enter Try.func59, Try.ntmps59
    go_wp2_with (go_at_call 72; refine (small_any _ _).mono ?_; rintro e w' ⟨rfl, rfl⟩)
    all_goals go_ret
    all_goals exact ⟨ret_int (by simp [greatI, h]), rfl⟩
  · go_enter Try.func59, Try.ntmps59
    go_wp2_with (go_at_call 72; refine (small_any _ _).mono ?_; rintro e w' ⟨rfl, rfl⟩)
    all_goals go_ret
    all_goals exact ⟨ret_int (by simp [greatI, h]), rfl⟩
/-- How a byte is asked for a class. -/
def askV (s : Int) : Value :=
  if s = 100 then .func (.func 94) #[] #[] else if s = 120 then .func (.func 95) #[] #[] else if s = 111 then .func (.func 96) #[] #[]
  else if s = 119 then .func (.func 97) #[] #[] else if s = 104 then .func (.func 98) #[] #[] else if s = 97 then .func (.func 99) #[] #[]
  else if s = 108 then .func (.func 72) #[] #[] else if s = 117 then .func (.func 71) #[] #[] else if s = 115 then .func (.func 100) #[] #[] else .nilFunc
theorem ret_val {a b : Value} (h : a = b) : Ending.returned a = .returned b := by rw [h]
theorem asks_any (k : Int) (h0 : 0 ≤ k) (h1 : k ≤ 255) (w : World) :
    Calls Try.prog 86 #[.int .u8 k] w fun e w' => e = .returned (askV (smallI k)) ∧ w = w' := by
  go_enter Try.func86, Try.ntmps86
  go_wp2_with (go_at_call 58; refine (Small_any _ (by assumption) (by assumption) _).mono ?_; rintro e w' ⟨rfl, rfl⟩)
  all_goals go_ret
  all_goals exact ⟨ret_val (by simp_all [askV]), rfl⟩
end Go.Proofs.Ytigbfgmgdfnhcaa
namespace Go.Proofs.Ytigbfgmgdfnhcaa
open Go.RowKit
theorem askV_none {s : Int} (h : knownB s = false) : askV s = .nilFunc := by
  simp [knownB] at h
  simp [askV, h]
theorem neq_func (f : Fn) (a b : Array Value) (w : World) : (Go.binOp .neq 140 (.func f a b) .nilFunc).run Try.prog w = .ok (.bool true) w := by
  kernel_rfl
theorem neq_nil (w : World) : (Go.binOp .neq 140 .nilFunc .nilFunc).run Try.prog w = .ok (.bool false) w := by
  kernel_rfl
attribute [local go_sem] neq_func neq_nil
theorem asks_of (k : Int) (v : Value) (h0 : 0 ≤ k) (h1 : k ≤ 255) (h : askV (smallI k) = v) (w : World) :
    Calls Try.prog 86 #[.int .u8 k] w fun e w' => e = .returned v ∧ w = w' := by
  subst h; exact asks_any k h0 h1 w
theorem Is_digit (k c : Int) (h0 : 0 ≤ k) (h1 : k ≤ 255) (h : smallI k = 100) (w : World) :
    Calls Try.prog 73 #[.int .u8 k, .int .u8 c] w fun e w' => e = .returned (.bool (isB k c)) ∧ w = w' := by
  have hi : isB k c = (digitB c != greatB k) := by rw [isB, h]; rfl
  have Ha := Lib.hid (fun w => asks_of k (.func (.func 94) #[] #[]) h0 h1 (by rw [h]; rfl) w)
  rw [hi]
  clear h hi
  go_enter Try.func73, Try.ntmps73
  go_wp2_with (first | (go_at_call 86; refine (Ha.out _).mono ?_; rintro e w' ⟨rfl, rfl⟩) | (go_at_call 94; refine (digit_any _ _).mono ?_; rintro e w' ⟨rfl, rfl⟩) | (go_at_call 71; refine (great_any _ _).mono ?_; rintro e w' ⟨rfl, rfl⟩))
  all_goals go_ret
  all_goals exact ⟨rfl, rfl⟩
theorem Is_hex (k c : Int) (h0 : 0 ≤ k) (h1 : k ≤ 255) (h : smallI k = 120) (w : World) :
    Calls Try.prog 73 #[.int .u8 k, .int .u8 c] w fun e w' => e = .returned (.bool (isB k c)) ∧ w = w' := by
  have hi : isB k c = (hexB c != greatB k) := by rw [isB, h]; rfl
  have Ha := Lib.hid (fun w => asks_of k (.func (.func 95) #[] #[]) h0 h1 (by rw [h]; rfl) w)
  rw [hi]
  clear h hi
  go_enter Try.func73, Try.ntmps73
  go_wp2_with (first | (go_at_call 86; refine (Ha.out _).mono ?_; rintro e w' ⟨rfl, rfl⟩) | (go_at_call 95; refine (hex_any _ _).mono ?_; rintro e w' ⟨rfl, rfl⟩) | (go_at_call 71; refine (great_any _ _).mono ?_; rintro e w' ⟨rfl, rfl⟩))
  all_goals go_ret
  all_goals exact ⟨rfl, rfl⟩
theorem Is_octal (k c : Int) (h0 : 0 ≤ k) (h1 : k ≤ 255) (h : smallI k = 111) (w : World) :
    Calls Try.prog 73 #[.int .u8 k, .int .u8 c] w fun e w' => e = .returned (.bool (isB k c)) ∧ w = w' := by
  have hi : isB k c = (octalB c != greatB k) := by rw [isB, h]; rfl
  have Ha := Lib.hid (fun w => asks_of k (.func (.func 96) #[] #[]) h0 h1 (by rw [h]; rfl) w)
  rw [hi]
  clear h hi
  go_enter Try.func73, Try.ntmps73
  go_wp2_with (first | (go_at_call 86; refine (Ha.out _).mono ?_; rintro e w' ⟨rfl, rfl⟩) | (go_at_call 96; refine (octal_any _ _).mono ?_; rintro e w' ⟨rfl, rfl⟩) | (go_at_call 71; refine (great_any _ _).mono ?_; rintro e w' ⟨rfl, rfl⟩))
  all_goals go_ret
  all_goals exact ⟨rfl, rfl⟩
theorem Is_word (k c : Int) (h0 : 0 ≤ k) (h1 : k ≤ 255) (h : smallI k = 119) (w : World) :
    Calls Try.prog 73 #[.int .u8 k, .int .u8 c] w fun e w' => e = .returned (.bool (isB k c)) ∧ w = w' := by
  have hi : isB k c = (wordB c != greatB k) := by rw [isB, h]; rfl
  have Ha := Lib.hid (fun w => asks_of k (.func (.func 97) #[] #[]) h0 h1 (by rw [h]; rfl) w)
  rw [hi]
  clear h hi
  go_enter Try.func73, Try.ntmps73
  go_wp2_with (first | (go_at_call 86; refine (Ha.out _).mono ?_; rintro e w' ⟨rfl, rfl⟩) | (go_at_call 97; refine (word_any _ _).mono ?_; rintro e w' ⟨rfl, rfl⟩) | (go_at_call 71; refine (great_any _ _).mono ?_; rintro e w' ⟨rfl, rfl⟩))
  all_goals go_ret
  all_goals exact ⟨rfl, rfl⟩
theorem Is_head (k c : Int) (h0 : 0 ≤ k) (h1 : k ≤ 255) (h : smallI k = 104) (w : World) :
    Calls Try.prog 73 #[.int .u8 k, .int .u8 c] w fun e w' => e = .returned (.bool (isB k c)) ∧ w = w' := by
  have hi : isB k c = (headB c != greatB k) := by rw [isB, h]; rfl
  have Ha := Lib.hid (fun w => asks_of k (.func (.func 98) #[] #[]) h0 h1 (by rw [h]; rfl) w)
  rw [hi]
  clear h hi
  go_enter Try.func73, Try.ntmps73
  go_wp2_with (first | (go_at_call 86; refine (Ha.out _).mono ?_; rintro e w' ⟨rfl, rfl⟩) | (go_at_call 98; refine (head_any _ _).mono ?_; rintro e w' ⟨rfl, rfl⟩) | (go_at_call 71; refine (great_any _ _).mono ?_; rintro e w' ⟨rfl, rfl⟩))
  all_goals go_ret
  all_goals exact ⟨rfl, rfl⟩
theorem Is_letter (k c : Int) (h0 : 0 ≤ k) (h1 : k ≤ 255) (h : smallI k = 97) (w : World) :
    Calls Try.prog 73 #[.int .u8 k, .int .u8 c] w fun e w' => e = .returned (.bool (isB k c)) ∧ w = w' := by
  have hi : isB k c = (letterB c != greatB k) := by rw [isB, h]; rfl
  have Ha := Lib.hid (fun w => asks_of k (.func (.func 99) #[] #[]) h0 h1 (by rw [h]; rfl) w)
  rw [hi]
  clear h hi
  go_enter Try.func73, Try.ntmps73
  go_wp2_with (first | (go_at_call 86; refine (Ha.out _).mono ?_; rintro e w' ⟨rfl, rfl⟩) | (go_at_call 99; refine (letter_any _ _).mono ?_; rintro e w' ⟨rfl, rfl⟩) | (go_at_call 71; refine (great_any _ _).mono ?_; rintro e w' ⟨rfl, rfl⟩))
  all_goals go_ret
  all_goals exact ⟨rfl, rfl⟩
theorem Is_small (k c : Int) (h0 : 0 ≤ k) (h1 : k ≤ 255) (h : smallI k = 108) (w : World) :
    Calls Try.prog 73 #[.int .u8 k, .int .u8 c] w fun e w' => e = .returned (.bool (isB k c)) ∧ w = w' := by
  have hi : isB k c = (smallB c != greatB k) := by rw [isB, h]; rfl
  have Ha := Lib.hid (fun w => asks_of k (.func (.func 72) #[] #[]) h0 h1 (by rw [h]; rfl) w)
  rw [hi]
  clear h hi
  go_enter Try.func73, Try.ntmps73
  go_wp2_with (first | (go_at_call 86; refine (Ha.out _).mono ?_; rintro e w' ⟨rfl, rfl⟩) | (go_at_call 72; refine (small_any _ _).mono ?_; rintro e w' ⟨rfl, rfl⟩) | (go_at_call 71; refine (great_any _ _).mono ?_; rintro e w' ⟨rfl, rfl⟩))
  all_goals go_ret
  all_goals exact ⟨rfl, rfl⟩
theorem Is_great (k c : Int) (h0 : 0 ≤ k) (h1 : k ≤ 255) (h : smallI k = 117) (w : World) :
    Calls Try.prog 73 #[.int .u8 k, .int .u8 c] w fun e w' => e = .returned (.bool (isB k c)) ∧ w = w' := by
  have hi : isB k c = (greatB c != greatB k) := by rw [isB, h]; rfl
  have Ha := Lib.hid (fun w => asks_of k (.func (.func 71) #[] #[]) h0 h1 (by rw [h]; rfl) w)
  rw [hi]
  clear h hi
  go_enter Try.func73, Try.ntmps73
  go_wp2_with (first | (go_at_call 86; refine (Ha.out _).mono ?_; rintro e w' ⟨rfl, rfl⟩) | (go_at_call 71; refine (great_any _ _).mono ?_; rintro e w' ⟨rfl, rfl⟩))
  all_goals go_ret
  all_goals exact ⟨rfl, rfl⟩
theorem Is_blank (k c : Int) (h0 : 0 ≤ k) (h1 : k ≤ 255) (h : smallI k = 115) (w : World) :
    Calls Try.prog 73 #[.int .u8 k, .int .u8 c] w fun e w' => e = .returned (.bool (isB k c)) ∧ w = w' := by
  have hi : isB k c = (blankB c != greatB k) := by rw [isB, h]; rfl
  have Ha := Lib.hid (fun w => asks_of k (.func (.func 100) #[] #[]) h0 h1 (by rw [h]; rfl) w)
  rw [hi]
  clear h hi
  go_enter Try.func73, Try.ntmps73
  go_wp2_with (first | (go_at_call 86; refine (Ha.out _).mono ?_; rintro e w' ⟨rfl, rfl⟩) | (go_at_call 100; refine (blank_any _ _).mono ?_; rintro e w' ⟨rfl, rfl⟩) | (go_at_call 71; refine (great_any _ _).mono ?_; rintro e w' ⟨rfl, rfl⟩))
  all_goals go_ret
  all_goals exact ⟨rfl, rfl⟩
theorem Is_none (k c : Int) (h0 : 0 ≤ k) (h1 : k ≤ 255) (h : knownB (smallI k) = false) (w : World) :
    Calls Try.prog 73 #[.int .u8 k, .int .u8 c] w fun e w' => e = .returned (.bool (isB k c)) ∧ w = w' := by
  have hi : isB k c = false := by rw [isB, h]; rfl
  have Ha := Lib.hid (fun w => asks_of k .nilFunc h0 h1 (askV_none h) w)
  rw [hi]
  clear h hi
  go_enter Try.func73, Try.ntmps73
  go_wp2_with (go_at_call 86; refine (Ha.out _).mono ?_; rintro e w' ⟨rfl, rfl⟩)
  all_goals go_ret
  all_goals exact ⟨rfl, rfl⟩
theorem Is_any (k c : Int) (h0 : 0 ≤ k) (h1 : k ≤ 255) (w : World) :
    Calls Try.prog 73 #[.int .u8 k, .int .u8 c] w fun e w' => e = .returned (.bool (isB k c)) ∧ w = w' := by
  rcases letters (smallI k) with h | h | h | h | h | h | h | h | h | h
  · exact Is_digit k c h0 h1 h w
  · exact Is_hex k c h0 h1 h w
  · exact Is_octal k c h0 h1 h w
  · exact Is_word k c h0 h1 h w
  · exact Is_head k c h0 h1 h w
  · exact Is_letter k c h0 h1 h w
  · exact Is_small k c h0 h1 h w
  · exact Is_great k c h0 h1 h w
  · exact Is_blank k c h0 h1 h w
  · exact Is_none k c h0 h1 h w
end Go.Proofs.Ytigbfgmgdfnhcaa
namespace Go.Proofs.Ytigbfgmgdfnhcaa
open Go.RowKit
def withJ (j a c : Int) : Int := if c / 64 = j then bits BinOp.or .u64 a (IntKind.u64.wrap (2 ^ (c % 64).toNat)) else a
def selJ (a0 a1 a2 a3 c : Int) : Int := if c / 64 = 0 then a0 else if c / 64 = 1 then a1 else if c / 64 = 2 then a2 else a3
def hasB (a0 a1 a2 a3 c : Int) : Bool := bits BinOp.and .u64 (selJ a0 a1 a2 a3 c / 2 ^ (c % 64).toNat) 1 != 0
def notI (a : Int) : Int := bits BinOp.xor .u64 IntKind.u64.max a
def bothI (a b : Int) : Int := bits BinOp.or .u64 a b
theorem quarters {c : Int} (h0 : 0 ≤ c) (h1 : c ≤ 255) : c / 64 = 0 ∨ c / 64 = 1 ∨ c / 64 = 2 ∨ c / 64 = 3 := by omega
theorem Has_any (a0 a1 a2 a3 c : Int) (h0 : 0 ≤ c) (h1 : c ≤ 255) (w : World) :
    Calls Try.prog 57 #[.agg #[.int .u64 a0, .int .u64 a1, .int .u64 a2, .int .u64 a3], .int .u8 c] w fun e w' => e = .returned (.bool (hasB a0 a1 a2 a3 c)) ∧ Below w.heap.size w w' := by
  rcases quarters h0 h1 with h | h | h | h
  all_goals
    go_enter Try.func57, Try.ntmps57
    go_wp2
    go_ret
    exact ⟨ret_bool (by simp [hasB, selJ, h]), (Below.refl _ _).alloc (Nat.le_refl _) _⟩
end Go.Proofs.Ytigbfgmgdfnhcaa
namespace Go.Proofs.Ytigbfgmgdfnhcaa
open Go.RowKit
/-- Word j of the set of the first k bytes of which p. -/
def accJ (p : Int → Bool) (j : Int) : Nat → Int
  | 0 => 0
  | k + 1 => if p k = true then withJ j (accJ p j k) k else accJ p j k
theorem bcell {W w1 : World} {B : Nat} (hb : Below B W w1) : (∀ b o, b < B → w1.cell? ⟨b, o, none⟩ = W.cell? ⟨b, o, none⟩) ∧ (∀ b o, b < B → w1.frozen? ⟨b, o, none⟩ = W.frozen? ⟨b, o, none⟩) :=
  ⟨fun b o h => hb.cell (p := ⟨b, o, none⟩) h, fun b o h => hb.frozen (p := ⟨b, o, none⟩) h⟩
/-- Four words in a block. -/
structure Four (W : World) (b : Nat) (a0 a1 a2 a3 : Int) : Prop where
  c0 : W.cell? ⟨b, 0, none⟩ = some (.int .u64 a0)
  c1 : W.cell? ⟨b, 1, none⟩ = some (.int .u64 a1)
  c2 : W.cell? ⟨b, 2, none⟩ = some (.int .u64 a2)
  c3 : W.cell? ⟨b, 3, none⟩ = some (.int .u64 a3)
  f0 : W.frozen? ⟨b, 0, none⟩ = false
  f1 : W.frozen? ⟨b, 1, none⟩ = false
  f2 : W.frozen? ⟨b, 2, none⟩ = false
  f3 : W.frozen? ⟨b, 3, none⟩ = false
theorem Four.below {W W' : World} {b : Nat} {a0 a1 a2 a3 : Int} {B : Nat} (h : Four W b a0 a1 a2 a3) (hb : Below B W W') (hB : b < B) : Four W' b a0 a1 a2 a3 := by
  obtain ⟨hc, hf⟩ := bcell hb
  obtain ⟨c0, c1, c2, c3, f0, f1, f2, f3⟩ := h
  exact ⟨by rw [hc _ _ hB]; exact c0, by rw [hc _ _ hB]; exact c1, by rw [hc _ _ hB]; exact c2, by rw [hc _ _ hB]; exact c3, by rw [hf _ _ hB]; exact f0, by rw [hf _ _ hB]; exact f1, by rw [hf _ _ hB]; exact f2, by rw [hf _ _ hB]; exact f3⟩
end Go.Proofs.Ytigbfgmgdfnhcaa
namespace Go.Proofs.Ytigbfgmgdfnhcaa
open Go.RowKit
def rhasB (a0 a1 a2 a3 c : Int) : Bool := bits BinOp.and .u64 (selJ a0 a1 a2 a3 c / 2 ^ (c % 64).toNat) 1 == 1
theorem rHas_any (a0 a1 a2 a3 c : Int) (h0 : 0 ≤ c) (h1 : c ≤ 255) (w : World) :
    Calls Try.prog 69 #[.agg #[.int .u64 a0, .int .u64 a1, .int .u64 a2, .int .u64 a3], .int .u8 c] w fun e w' => e = .returned (.bool (rhasB a0 a1 a2 a3 c)) ∧ Below w.heap.size w w' := by
  rcases quarters h0 h1 with h | h | h | h
  all_goals
    go_enter Try.func69, Try.ntmps69
    go_wp2
    go_ret
    exact ⟨ret_bool (by simp [rhasB, selJ, h]), (Below.refl _ _).alloc (Nat.le_refl _) _⟩
theorem rWith_any (a0 a1 a2 a3 c : Int) (h0 : 0 ≤ c) (h1 : c ≤ 255) (w : World) :
    Calls Try.prog 105 #[.agg #[.int .u64 a0, .int .u64 a1, .int .u64 a2, .int .u64 a3], .int .u8 c] w fun e w' =>
      e = .returned (.agg #[.int .u64 (withJ 0 a0 c), .int .u64 (withJ 1 a1 c), .int .u64 (withJ 2 a2 c), .int .u64 (withJ 3 a3 c)]) ∧ Below w.heap.size w w' := by
  rcases quarters h0 h1 with h | h | h | h
  all_goals
    go_enter Try.func105, Try.ntmps105
    go_wp2
    try (go_region; go_wp2)
    refine bodyPost_ret (v := .agg #[.int .u64 (withJ 0 a0 c), .int .u64 (withJ 1 a1 c), .int .u64 (withJ 2 a2 c), .int .u64 (withJ 3 a3 c)]) ?_ rfl ⟨rfl, by (repeat (first | exact Below.refl _ _ | assumption | refine Below.drew ?_ | refine Below.alloc ?_ (by first | exact Nat.le_refl _ | omega | (simp; done) | (simp; omega)) _ | refine Below.setCell ?_ (by first | exact Nat.le_refl _ | omega | (simp; done) | (simp; omega)) _))⟩
    simp [results, Try.results105, go_sem, withJ, h]
theorem rNot_any (a0 a1 a2 a3 : Int) (w : World) :
    Calls Try.prog 101 #[.agg #[.int .u64 a0, .int .u64 a1, .int .u64 a2, .int .u64 a3]] w fun e w' =>
      e = .returned (.agg #[.int .u64 (notI a0), .int .u64 (notI a1), .int .u64 (notI a2), .int .u64 (notI a3)]) ∧ Below w.heap.size w w' := by
  go_enter Try.func101, Try.ntmps101
  go_wp2
  refine wp_loop_rounds 5 ?_
  iterate 5 (all_goals (rw [rounds_succ]; go_wp2))
  refine bodyPost_ret (v := .agg #[.int .u64 (notI a0), .int .u64 (notI a1), .int .u64 (notI a2), .int .u64 (notI a3)]) ?_ rfl ⟨rfl, by (repeat (first | exact Below.refl _ _ | assumption | refine Below.drew ?_ | refine Below.alloc ?_ (by first | exact Nat.le_refl _ | omega | (simp; done) | (simp; omega)) _ | refine Below.setCell ?_ (by first | exact Nat.le_refl _ | omega | (simp; done) | (simp; omega)) _))⟩
  simp [results, Try.results101, go_sem, notI]
theorem rBoth_any (a0 a1 a2 a3 b0 b1 b2 b3 : Int) (w : World) :
    Calls Try.prog 103 #[.agg #[.int .u64 a0, .int .u64 a1, .int .u64 a2, .int .u64 a3], .agg #[.int .u64 b0, .int .u64 b1, .int .u64 b2, .int .u64 b3]] w fun e w' =>
      e = .returned (.agg #[.int .u64 (bothI a0 b0), .int .u64 (bothI a1 b1), .int .u64 (bothI a2 b2), .int .u64 (bothI a3 b3)]) ∧ Below w.heap.size w w' := by
  go_enter Try.func103, Try.ntmps103
  go_wp2
  refine wp_loop_rounds 5 ?_
  iterate 4 (rw [rounds_succ]; go_wp2; go_region; go_wp2)
  rw [rounds_succ]
  go_wp2
  refine bodyPost_ret (v := .agg #[.int .u64 (bothI a0 b0), .int .u64 (bothI a1 b1), .int .u64 (bothI a2 b2), .int .u64 (bothI a3 b3)]) ?_ rfl ⟨rfl, by (repeat (first | exact Below.refl _ _ | assumption | refine Below.drew ?_ | refine Below.alloc ?_ (by first | exact Nat.le_refl _ | omega | (simp; done) | (simp; omega)) _ | refine Below.setCell ?_ (by first | exact Nat.le_refl _ | omega | (simp; done) | (simp; omega)) _))⟩
  simp [results, Try.results103, go_sem, bothI]
end Go.Proofs.Ytigbfgmgdfnhcaa
namespace Go.Proofs.Ytigbfgmgdfnhcaa
open Go.RowKit
attribute [local go_sem] neq_func neq_nil
theorem eql_func (f : Fn) (a b : Array Value) (w : World) : (Go.binOp .eql 140 (.func f a b) .nilFunc).run Try.prog w = .ok (.bool false) w := by
  kernel_rfl
theorem eql_nil (w : World) : (Go.binOp .eql 140 .nilFunc .nilFunc).run Try.prog w = .ok (.bool true) w := by
  kernel_rfl
attribute [local go_sem] eql_func eql_nil
/-- The four words of a set, and whether there is one. -/
def setV (a0 a1 a2 a3 : Int) (b : Bool) : Value := .tuple #[.agg #[.int .u64 a0, .int .u64 a1, .int .u64 a2, .int .u64 a3], .bool b]
/-- A class as a set: the bytes that are of it. -/
def ofV (p : Int → Bool) (b : Bool) : Value := setV (accJ p 0 256) (accJ p 1 256) (accJ p 2 256) (accJ p 3 256) b
end Go.Proofs.Ytigbfgmgdfnhcaa
namespace Go.Proofs.Ytigbfgmgdfnhcaa
open Go.RowKit
attribute [local go_sem] neq_func neq_nil eql_func eql_nil
/-- The bytes of a name, and whether there is one. -/
def nameP (l : List UInt8) (c : Int) : Bool :=
  if l = [97, 108, 112, 104, 97] then letterB c else if l = [100, 105, 103, 105, 116] then digitB c else if l = [97, 108, 110, 117, 109] then alnumB c else if l = [108, 111, 119, 101, 114] then smallB c else if l = [117, 112, 112, 101, 114] then greatB c else if l = [98, 108, 97, 110, 107] then blankB c else if l = [115, 112, 97, 99, 101] then spaceB c else if l = [120, 100, 105, 103, 105, 116] then hexB c else if l = [99, 110, 116, 114, 108] then controlB c else if l = [112, 117, 110, 99, 116] then punctB c else false
def nameIs (l : List UInt8) : Bool := l == [97, 108, 112, 104, 97] || l == [100, 105, 103, 105, 116] || l == [97, 108, 110, 117, 109] || l == [108, 111, 119, 101, 114] || l == [117, 112, 112, 101, 114] || l == [98, 108, 97, 110, 107] || l == [115, 112, 97, 99, 101] || l == [120, 100, 105, 103, 105, 116] || l == [99, 110, 116, 114, 108] || l == [112, 117, 110, 99, 116]
theorem namesOf (l : List UInt8) : l = [97, 108, 112, 104, 97] ∨ l = [100, 105, 103, 105, 116] ∨ l = [97, 108, 110, 117, 109] ∨ l = [108, 111, 119, 101, 114] ∨ l = [117, 112, 112, 101, 114] ∨ l = [98, 108, 97, 110, 107] ∨ l = [115, 112, 97, 99, 101] ∨ l = [120, 100, 105, 103, 105, 116] ∨ l = [99, 110, 116, 114, 108] ∨ l = [112, 117, 110, 99, 116] ∨ nameIs l = false := by
  by_cases h0 : l = [97, 108, 112, 104, 97]
  · simp [h0]
  by_cases h1 : l = [100, 105, 103, 105, 116]
  · simp [h1]
  by_cases h2 : l = [97, 108, 110, 117, 109]
  · simp [h2]
  by_cases h3 : l = [108, 111, 119, 101, 114]
  · simp [h3]
  by_cases h4 : l = [117, 112, 112, 101, 114]
  · simp [h4]
  by_cases h5 : l = [98, 108, 97, 110, 107]
  · simp [h5]
  by_cases h6 : l = [115, 112, 97, 99, 101]
  · simp [h6]
  by_cases h7 : l = [120, 100, 105, 103, 105, 116]
  · simp [h7]
  by_cases h8 : l = [99, 110, 116, 114, 108]
  · simp [h8]
  by_cases h9 : l = [112, 117, 110, 99, 116]
  · simp [h9]
  simp [nameIs, h0, h1, h2, h3, h4, h5, h6, h7, h8, h9]
theorem nameP_no {l : List UInt8} (h : nameIs l = false) : ∀ c, nameP l c = false := by
  unfold nameIs at h
  simp only [Bool.or_eq_false_iff, beq_eq_false_iff_ne] at h
  obtain ⟨⟨⟨⟨⟨⟨⟨⟨⟨n1, n2⟩, n3⟩, n4⟩, n5⟩, n6⟩, n7⟩, n8⟩, n9⟩, n10⟩ := h
  exact fun c => by simp [nameP, n1, n2, n3, n4, n5, n6, n7, n8, n9, n10]
end Go.Proofs.Ytigbfgmgdfnhcaa
namespace Go.Proofs.Ytigbfgmgdfnhcaa
open Go.RowKit
theorem rbetween_any (c lo hi : Int) (w : World) :
    Calls Try.prog 48 #[.int .u8 c, .int .u8 lo, .int .u8 hi] w fun e w' => e = .returned (.bool (btw c lo hi)) ∧ w = w' := by
  go_enter Try.func48, Try.ntmps48
  go_wp2
  all_goals go_ret
  all_goals exact ⟨ret_bool (by simp [btw]; omega), rfl⟩
theorem rsmall_any (c : Int) (w : World) :
    Calls Try.prog 49 #[.int .u8 c] w fun e w' => e = .returned (.bool (smallB c)) ∧ w = w' := by
  go_enter Try.func49, Try.ntmps49
  go_wp2_with (go_at_call 48; refine (rbetween_any _ _ _ _).mono ?_; rintro e w' ⟨rfl, rfl⟩)
  all_goals go_ret
  all_goals exact ⟨rfl, rfl⟩
theorem rgreat_any (c : Int) (w : World) :
    Calls Try.prog 32 #[.int .u8 c] w fun e w' => e = .returned (.bool (greatB c)) ∧ w = w' := by
  go_enter Try.func32, Try.ntmps32
  go_wp2_with (go_at_call 48; refine (rbetween_any _ _ _ _).mono ?_; rintro e w' ⟨rfl, rfl⟩)
  all_goals go_ret
  all_goals exact ⟨rfl, rfl⟩
theorem rSmall_any (c : Int) (h0 : 0 ≤ c) (h1 : c ≤ 255) (w : World) :
    Calls Try.prog 31 #[.int .u8 c] w fun e w' => e = .returned (.int .u8 (smallI c)) ∧ w = w' := by
  by_cases h : greatB c = true
  · have hb := btw_iff.1 h
    have hb1 := hb.1
    have hb2 := hb.2
    clear hb
    go_enter Try.func31, Try.ntmps31
    go_wp2_with (go_at_call 32; refine (rgreat_any _ _).mono ?_; rintro e w' ⟨rfl, rfl⟩)
    all_goals go_ret
    all_goals exact ⟨ret_int (by simp [smallI, h]), rfl⟩
  · go_enter Try.func31, Try.ntmps31
    go_wp2_with (go_at_call 32; refine (rgreat_any _ _).mono ?_; rintro e w' ⟨rfl, rfl⟩)
    all_goals go_ret
    all_goals exact ⟨ret_int (by simp [smallI, h]), rfl⟩
theorem rGreat_any (c : Int) (h0 : 0 ≤ c) (h1 : c ≤ 255) (w : World) :
    Calls Try.prog 70 #[.int .u8 c] w fun e w' => e = .returned (.int .u8 (greatI c)) ∧ w = w' := by
  by_cases h : smallB c = true
  · have hb := btw_iff.1 h
    have hb1 := hb.1
    have hb2 := hb.2
    clear hb
    go_enter Try.func70, Try.ntmps70
    go_wp2_with (go_at_call 49; refine (rsmall_any _ _).mono ?_; rintro e w' ⟨rfl, rfl⟩)
    all_goals go_ret
    all_goals exact ⟨ret_int (by simp [greatI, h]), rfl⟩
  · go_enter Try.func70, Try.ntmps70
    go_wp2_with (go_at_call 49; refine (rsmall_any _ _).mono ?_; rintro e w' ⟨rfl, rfl⟩)
    all_goals go_ret
    all_goals exact ⟨ret_int (by simp [greatI, h]), rfl⟩
theorem rdigit_any (c : Int) (w : World) :
    Calls Try.prog 47 #[.int .u8 c] w fun e w' => e = .returned (.bool (digitB c)) ∧ w = w' := by
  go_enter Try.func47, Try.ntmps47
  go_wp2_with (go_at_call 48; refine (rbetween_any _ _ _ _).mono ?_; rintro e w' ⟨rfl, rfl⟩)
  all_goals go_ret
  all_goals exact ⟨rfl, rfl⟩
theorem ret_two {a b c d : Bool} (h : a = c) (h' : b = d) : Ending.returned (.tuple #[.bool a, .bool b]) = .returned (.tuple #[.bool c, .bool d]) := by rw [h, h']
theorem plain_any (s c : Int) (w : World) :
    Calls Try.prog 30 #[.int .u8 s, .int .u8 c] w fun e w' => e = .returned (.tuple #[.bool (plainB s c), .bool (knownB s)]) ∧ w = w' := by
  rcases letters s with h | h | h | h | h | h | h | h | h | h
  iterate 9
    · subst h
      go_enter Try.func30, Try.ntmps30
      go_wp2_with (first | (go_at_call 48; refine (rbetween_any _ _ _ _).mono ?_; rintro e w' ⟨rfl, rfl⟩) | (go_at_call 47; refine (rdigit_any _ _).mono ?_; rintro e w' ⟨rfl, rfl⟩) | (go_at_call 49; refine (rsmall_any _ _).mono ?_; rintro e w' ⟨rfl, rfl⟩) | (go_at_call 32; refine (rgreat_any _ _).mono ?_; rintro e w' ⟨rfl, rfl⟩))
      all_goals go_ret2
      all_goals exact ⟨ret_two (by simp_all [plainB, hexB, octalB, wordB, headB, letterB, blankB]) rfl, rfl⟩
  · have hn := h
    simp [knownB] at hn
    obtain ⟨⟨⟨⟨⟨⟨⟨⟨n1, n2⟩, n3⟩, n4⟩, n5⟩, n6⟩, n7⟩, n8⟩, n9⟩ := hn
    have H := Lib.hid h; clear h
    go_enter Try.func30, Try.ntmps30
    go_wp2
    all_goals go_ret2
    all_goals exact ⟨ret_two (by rw [plainB_none H.out]) (by rw [H.out]), rfl⟩
theorem rIs_any (k c : Int) (h0 : 0 ≤ k) (h1 : k ≤ 255) (w : World) :
    Calls Try.prog 18 #[.int .u8 k, .int .u8 c] w fun e w' => e = .returned (.bool (isB k c)) ∧ w = w' := by
  go_enter Try.func18, Try.ntmps18
  go_wp2_with (first | (go_at_call 31; refine (rSmall_any _ (by assumption) (by assumption) _).mono ?_; rintro e w' ⟨rfl, rfl⟩) | (go_at_call 30; refine (plain_any _ _ _).mono ?_; rintro e w' ⟨rfl, rfl⟩) | (go_at_call 32; refine (rgreat_any _ _).mono ?_; rintro e w' ⟨rfl, rfl⟩))
  all_goals go_ret
  all_goals exact ⟨ret_bool (by simp_all [isB]), rfl⟩
theorem rKnown_any (k : Int) (h0 : 0 ≤ k) (h1 : k ≤ 255) (w : World) :
    Calls Try.prog 21 #[.int .u8 k] w fun e w' => e = .returned (.bool (knownB (smallI k))) ∧ w = w' := by
  go_enter Try.func21, Try.ntmps21
  go_wp2_with (first | (go_at_call 31; refine (rSmall_any _ (by assumption) (by assumption) _).mono ?_; rintro e w' ⟨rfl, rfl⟩) | (go_at_call 30; refine (plain_any _ _ _).mono ?_; rintro e w' ⟨rfl, rfl⟩))
  all_goals go_ret
  all_goals exact ⟨rfl, rfl⟩
end Go.Proofs.Ytigbfgmgdfnhcaa
namespace Go.Proofs.Ytigbfgmgdfnhcaa
open Go.RowKit
section
variable {P : Program} {ops : Array Oper} {C : World → Prop} {a : Act} {o : Oper} {K : Act → Prop}
theorem quiet_val (v : Value) (hr : ∀ w, C w → (execOp a.eval o).run P w = .ok (.value v) w) (hk : K (a.put o.dst v)) : o.quiet P a C K :=
  ⟨v, fun w hw => by unfold Oper.quietAt; rw [hr w hw]; exact ⟨rfl, rfl⟩, hk⟩
theorem quiet_call (v : Value) (f : FuncId) (args : Array Value) (hr : ∀ w, C w → (execOp a.eval o).run P w = .ok (.enter f args) w) (hc : ∀ w, C w → Calls P f args w fun e w'' => e = .returned v ∧ C w'') (hk : K (a.put o.dst v)) : o.quiet P a C K :=
  ⟨v, fun w hw => by unfold Oper.quietAt; rw [hr w hw]; exact ⟨rfl, hc w hw⟩, hk⟩
theorem wpQ_val {Q : Act → Prop} {rest : List Oper} {v : Value} (hw : Region.wanted o (yielded ops a.tmps) = true) (hr : ∀ w, C w → (execOp a.eval o).run P w = .ok (.value v) w) (hk : wpQuiet P ops C Q rest (a.put o.dst v)) : wpQuiet P ops C Q (o :: rest) a :=
  wpQuiet_step fun _ hK => by rw [if_pos hw]; exact quiet_val v hr (hK _ hk)
theorem wpQ_call {Q : Act → Prop} {rest : List Oper} {v : Value} {f : FuncId} {args : Array Value} (hw : Region.wanted o (yielded ops a.tmps) = true) (hr : ∀ w, C w → (execOp a.eval o).run P w = .ok (.enter f args) w)
    (hc : ∀ w, C w → Calls P f args w fun e w'' => e = .returned v ∧ C w'') (hk : wpQuiet P ops C Q rest (a.put o.dst v)) : wpQuiet P ops C Q (o :: rest) a :=
  wpQuiet_step fun _ hK => by rw [if_pos hw]; exact quiet_call v f args hr hc (hK _ hk)
theorem wpQ_skip {Q : Act → Prop} {rest : List Oper} (hw : Region.wanted o (yielded ops a.tmps) = false) (hk : wpQuiet P ops C Q rest (a.put o.dst undef)) : wpQuiet P ops C Q (o :: rest) a :=
  wpQuiet_step fun _ hK => by rw [if_neg (by rw [hw]; exact Bool.false_ne_true)]; exact hK _ hk
/-- The worlds that have grown from W. -/
def From (W w : World) : Prop := Below W.heap.size W w
theorem From.refl (W : World) : From W W := Below.refl _ _
theorem From.cell {W w : World} (h : From W w) {p : Addr} {v : Value} (hc : W.cell? p = some v) : w.cell? p = some v := by
  have hlt : p.block < W.heap.size := World.block_lt_of_cell? W p hc
  rw [Below.cell h hlt]; exact hc
theorem From.call {W w w' : World} (h : From W w) (hb : Below w.heap.size w w') : From W w' := Below.trans h (hb.mono (Below.size h))
theorem From.of_same {W w : World} (h : From W w) {f : FuncId} {args : Array Value} {v : Value} (hc : Calls P f args w fun e w' => e = .returned v ∧ w = w') :
    Calls P f args w fun e w'' => e = .returned v ∧ From W w'' := hc.mono fun _ _ ⟨he, hb⟩ => ⟨he, hb ▸ h⟩
theorem wp_region_from {id : Nat} {Q : Exit → Act → World → Prop} {w : World} {l : List Oper} (hm : P.follows .mixedOrders = true) (hB : Region.lexB .any l.toArray = true)
    (h : wpQuiet P l.toArray (From w) (fun a' => ∀ w', From w w' → Q .normal a' w') l a) : (Code.region id l.toArray true).wp P Q a w :=
  wp_region_quiet (C := From w) hm hB ((Below.refl _ _).drew) (by simpa using h)
theorem wpOps_of_quiet {Q : Exit → Act → World → Prop} : ∀ (l : List Oper) (k : Nat) (a : Act) (w : World), (∀ j, l[j]? = ops[k + j]?) → C w →
    wpQuiet P ops C (fun a' => ∀ w', C w' → Q .normal a' w') l a → wpOps P ops Q (List.range' k l.length) a w
  | [], _, a, w, _, hC, h => h w hC
  | o :: l, k, a, w, hl, hC, h => by
    have h0 : ops[k]? = some o := by simpa using (hl 0).symm
    rw [List.length_cons, List.range'_succ, wpOps_cons]
    have hq : qOp P ops C k (wpQuiet P ops C (fun a' => ∀ w', C w' → Q .normal a' w') l) a := by unfold qOp; simp only [h0]; exact h
    exact wpOp_of_qOp hC (fun a' w' hw' hk => wpOps_of_quiet l (k + 1) a' w' (fun j => by have := hl (j + 1); simpa [Nat.add_assoc, Nat.add_comm 1 j] using this) hw' hk) hq
theorem wp_region_from_still {id : Nat} {Q : Exit → Act → World → Prop} {w : World} {l : List Oper}
    (h : wpQuiet P l.toArray (From w) (fun a' => ∀ w', From w w' → Q .normal a' w') l a) : (Code.region id l.toArray false).wp P Q a w := by
  refine wp_region ?_
  have := wpOps_of_quiet (C := From w) (ops := l.toArray) l 0 a w (fun j => by simp) (From.refl w) h
  simpa [List.range_eq_range'] using this
/-- The same, as a thing that doesn't unfold by itself. -/
structure WQ (P : Program) (ops : Array Oper) (C : World → Prop) (Q : Act → Prop) (l : List Oper) (a : Act) : Prop where
  h : wpQuiet P ops C Q l a
theorem WQ_val {Q : Act → Prop} {rest : List Oper} {v : Value} (hw : Region.wanted o (yielded ops a.tmps) = true) (hr : ∀ w, C w → (execOp a.eval o).run P w = .ok (.value v) w) (hk : WQ P ops C Q rest (a.put o.dst v)) : WQ P ops C Q (o :: rest) a :=
  ⟨wpQ_val hw hr hk.h⟩
theorem WQ_call {Q : Act → Prop} {rest : List Oper} {v : Value} {f : FuncId} {args : Array Value} (hw : Region.wanted o (yielded ops a.tmps) = true) (hr : ∀ w, C w → (execOp a.eval o).run P w = .ok (.enter f args) w)
    (hc : ∀ w, C w → Calls P f args w fun e w'' => e = .returned v ∧ C w'') (hk : WQ P ops C Q rest (a.put o.dst v)) : WQ P ops C Q (o :: rest) a := ⟨wpQ_call hw hr hc hk.h⟩
theorem WQ_skip {Q : Act → Prop} {rest : List Oper} (hw : Region.wanted o (yielded ops a.tmps) = false) (hk : WQ P ops C Q rest (a.put o.dst undef)) : WQ P ops C Q (o :: rest) a := ⟨wpQ_skip hw hk.h⟩
theorem WQ_nil {Q : Act → Prop} (h : Q a) : WQ P ops C Q [] a := ⟨wpQuiet_nil h⟩
theorem wq_region_from {id : Nat} {Q : Exit → Act → World → Prop} {w : World} {l : List Oper} (hm : P.follows .mixedOrders = true) (hB : Region.lexB .any l.toArray = true)
    (h : WQ P l.toArray (From w) (fun a' => ∀ w', From w w' → Q .normal a' w') l a) : (Code.region id l.toArray true).wp P Q a w := wp_region_from hm hB h.h
theorem wq_region_from_still {id : Nat} {Q : Exit → Act → World → Prop} {w : World} {l : List Oper}
    (h : WQ P l.toArray (From w) (fun a' => ∀ w', From w w' → Q .normal a' w') l a) : (Code.region id l.toArray false).wp P Q a w := wp_region_from_still h.h
end
end Go.Proofs.Ytigbfgmgdfnhcaa
