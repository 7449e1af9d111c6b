/- Plain words for kinds of bytes: classes as functions on integers, sets as four words. -/
import Derived.WalkKit
namespace Go.Proofs.Ytlhcojclfgbobaa
open Go.RowKit

theorem ret_bool {a b : Bool} (h : a = b) : Ending.returned (.bool a) = .returned (.bool b) := by rw [h]
theorem ret_int {k : IntKind} {a b : Int} (h : a = b) : Ending.returned (.int k a) = .returned (.int k b) := by rw [h]

def btw (c lo hi : Int) : Bool := decide (lo ≤ c) && decide (c ≤ hi)
def smallB (c : Int) : Bool := btw c 97 122
def greatB (c : Int) : Bool := btw c 65 90
def digitB (c : Int) : Bool := btw c 48 57
def octalB (c : Int) : Bool := btw c 48 55
def letterB (c : Int) : Bool := smallB c || greatB c
def headB (c : Int) : Bool := letterB c || c == 95
def wordB (c : Int) : Bool := headB c || digitB c
def blankB (c : Int) : Bool := c == 32 || c == 9
def hexB (c : Int) : Bool := digitB c || btw c 97 102 || btw c 65 70
def spaceB (c : Int) : Bool := c == 32 || btw c 9 13
def alnumB (c : Int) : Bool := letterB c || digitB c
def controlB (c : Int) : Bool := decide (c < 32) || c == 127
def punctB (c : Int) : Bool := btw c 33 126 && !alnumB c

def smallI (c : Int) : Int := if greatB c = true then c + 32 else c
def greatI (c : Int) : Int := if smallB c = true then c - 32 else c
def sameB (a b : Int) (fold : Bool) : Bool := a == b || fold && smallI a == smallI b

/-- The class of a small letter. -/
def plainB (s c : Int) : Bool :=
  if s = 100 then digitB c else if s = 120 then hexB c else if s = 111 then octalB c else if s = 119 then wordB c else if s = 104 then headB c
  else if s = 97 then letterB c else if s = 108 then smallB c else if s = 117 then greatB c else if s = 115 then blankB c else false
def knownB (s : Int) : Bool := s == 100 || s == 120 || s == 111 || s == 119 || s == 104 || s == 97 || s == 108 || s == 117 || s == 115
def isB (k c : Int) : Bool := knownB (smallI k) && (plainB (smallI k) c != greatB k)

theorem btw_iff {c lo hi : Int} : btw c lo hi = true ↔ lo ≤ c ∧ c ≤ hi := by simp [btw]
theorem btw_not {c lo hi : Int} : btw c lo hi = false ↔ ¬ (lo ≤ c ∧ c ≤ hi) := by rw [← btw_iff]; simp

theorem smallI_rng {c : Int} (h0 : 0 ≤ c) (h1 : c ≤ 255) : 0 ≤ smallI c ∧ smallI c ≤ 255 := by
  unfold smallI; split
  · rename_i h; have := btw_iff.1 h; omega
  · omega
theorem greatI_rng {c : Int} (h0 : 0 ≤ c) (h1 : c ≤ 255) : 0 ≤ greatI c ∧ greatI c ≤ 255 := by
  unfold greatI; split
  · rename_i h; have := btw_iff.1 h; omega
  · omega

/-- The letters of classes, or none. -/
theorem letters (s : Int) : s = 100 ∨ s = 120 ∨ s = 111 ∨ s = 119 ∨ s = 104 ∨ s = 97 ∨ s = 108 ∨ s = 117 ∨ s = 115 ∨ knownB s = false := by
  unfold knownB; simp; omega

theorem plainB_none {s c : Int} (h : knownB s = false) : plainB s c = false := by
  simp [knownB] at h
  simp [plainB, h]

end Go.Proofs.Ytlhcojclfgbobaa
