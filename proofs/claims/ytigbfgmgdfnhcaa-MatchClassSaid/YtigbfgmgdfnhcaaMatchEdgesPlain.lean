/- Plain words: programs of one look. -/
import Derived.Test.YtigbfgmgdfnhcaaBaseA41
import Derived.Test.YtigbfgmgdfnhcaaBaseA42
import Derived.Test.YtigbfgmgdfnhcaaBaseA0
set_option linter.all false
set_option linter.unusedVariables false
set_option linter.unusedSimpArgs false
namespace Go.Proofs.Ytigbfgmgdfnhcaa
open Go.RowKit

def qLook (o : Int) : ProgD := ⟨[{ op := o }, { op := 14 }], 0, false⟩
theorem comp_bol : compiledF [94] false = some (qLook 8) := by kernel_rfl
theorem comp_eol : compiledF [36] false = some (qLook 9) := by kernel_rfl
theorem comp_bow : compiledF [92, 60] false = some (qLook 10) := by kernel_rfl
theorem comp_eow : compiledF [92, 62] false = some (qLook 11) := by kernel_rfl
theorem step_look {o : Int} (h1 : 8 ≤ o) (h2 : o ≤ 11) (l : List UInt8) (t : TryD) (ts : List TryD) : stepF false l t { op := o } ts = if looksF l t.pos o = true then some ({ t with pc := t.pc + 1 }, ts) else none := by
  unfold stepF
  simp only []
  rw [if_neg (by omega), if_neg (by omega), if_neg (by omega), if_neg (by omega), if_neg (by omega), if_neg (by omega), if_neg (by omega)]
def lookM (k : Nat) : MatchD := matchF { firstT k 0 with pc := 1 } k
theorem run_look {o : Int} (h1 : 8 ≤ o) (h2 : o ≤ 11) (l : List UInt8) (k f st : Nat) :
    runF (qLook o) l k (f + 4) (st + 2) none [firstT k 0] = if looksF l k o = true then some ⟨lookM k, st, true, 0⟩ else some ⟨.zero, ((st + 1 : Nat) : Int), false, 0⟩ := by
  have hs := step_look h1 h2 l (firstT k 0) []
  have hp : (firstT k 0).pos = k := rfl
  rw [hp] at hs
  have e0 : (qLook o).code[(firstT k 0).pc]? = some { op := o } := rfl
  rw [show f + 4 = (f + 3) + 1 from rfl, runF]
  simp only [List.getLast?_singleton, List.dropLast_singleton]
  rw [show f + 3 = (f + 2) + 1 from rfl, runF, e0]
  simp only [show ¬ (o = 14) by omega, if_false]
  rw [show (qLook o).fold = false from rfl, hs]
  by_cases hb : looksF l k o = true
  · rw [if_pos hb, if_pos hb]
    simp only []
    have e1 : (qLook o).code[({ firstT k 0 with pc := (firstT k 0).pc + 1 } : TryD).pc]? = some { op := 14 } := rfl
    rw [show f + 2 = (f + 1) + 1 from rfl, runF, e1]
    rfl
  · rw [if_neg hb, if_neg hb]
    simp only []
    rw [show f + 2 = (f + 1) + 1 from rfl, runF]
    rfl
theorem sound_look {o : Int} (h1 : 8 ≤ o) (h2 : o ≤ 11) : soundB (qLook o) = true := by
  rcases (show o = 8 ∨ o = 9 ∨ o = 10 ∨ o = 11 by omega) with rfl | rfl | rfl | rfl <;> kernel_rfl
theorem at_look {o : Int} (h1 : 8 ≤ o) (h2 : o ≤ 11) (l : List UInt8) (k st : Nat) (hk : k ≤ l.length) (hs2 : 2 ≤ st) (hs : st ≤ 5000) :
    atF (qLook o) l k st = if looksF l k o = true then some ⟨lookM k, ((st - 2 : Nat) : Int), true, 0⟩ else some ⟨.zero, ((st - 1 : Nat) : Int), false, 0⟩ := by
  unfold atF
  rw [if_neg (by rintro (g | g | g | g | g) <;> first | exact absurd ((sound_look h1 h2).symm.trans g) (by decide) | omega)]
  obtain ⟨s, rfl⟩ : ∃ s, st = s + 2 := ⟨st - 2, by omega⟩
  rw [Int.toNat_natCast, Int.toNat_natCast]
  have h := run_look h1 h2 l k (3 * (s + 2)) s
  rw [show (qLook o).rounds = 0 from rfl]
  exact h
theorem lookM_len (k : Nat) : (lookM k).beg.length = 10 ∧ (lookM k).end_.length = 10 := by
  unfold lookM; rw [← partM_nine]; exact ⟨partM_blen _ _ _, partM_elen _ _ _⟩
theorem lookM_ends (k : Nat) : (lookM k).from_ = k ∧ (lookM k).to_ = k := by
  have e1 : fromG { firstT k 0 with pc := 1 } k = k := rfl
  have e2 : toG { firstT k 0 with pc := 1 } = k := rfl
  unfold lookM
  rw [matchF_eq, e1, e2]
  exact ⟨rfl, by show max (k : Int) k = k; omega⟩
theorem looks_eol (l : List UInt8) (k : Nat) : looksF l k 9 = (k == l.length) := rfl
theorem from_eol (l : List UInt8) : ∀ (f k st : Nat), k ≤ l.length → l.length - k + 1 ≤ f → l.length - k + 2 ≤ st → st ≤ 5000 → ∃ s, fromF (qLook 9) l f k st = some ⟨lookM l.length, s, true, 0⟩
  | 0, k, st, h1, h2, h3, h4 => by omega
  | f + 1, k, st, h1, h2, h3, h4 => by
    unfold fromF
    rw [at_look (by decide) (by decide) l k st h1 (by omega) h4, looks_eol]
    by_cases hk : k = l.length
    · subst hk
      simp
    · have e : (k == l.length) = false := beq_eq_false_iff_ne.mpr hk
      rw [e]
      simp only [Bool.false_eq_true, if_false, ne_eq, not_true_eq_false, false_or]
      rw [if_neg (by omega)]
      obtain ⟨s, hs⟩ := from_eol l f (k + 1) (st - 1) (by omega) (by omega) (by omega) (by omega)
      exact ⟨s, by rw [← hs]; rfl⟩
end Go.Proofs.Ytigbfgmgdfnhcaa
