/- A few lemmas more that the law's proof stands on. No condition. -/
import Derived.Test.YtigbfgmgdfnhcaaBaseA1
import Derived.Test.YtigbfgmgdfnhcaaBaseA2
import Derived.Test.YtigbfgmgdfnhcaaBaseA3
import Derived.Test.YtigbfgmgdfnhcaaBaseA4
import Derived.Test.YtigbfgmgdfnhcaaBaseA5
import Derived.Test.YtigbfgmgdfnhcaaBaseA6
import Derived.Test.YtigbfgmgdfnhcaaBaseA7
import Derived.Test.YtigbfgmgdfnhcaaBaseA8
import Derived.Test.YtigbfgmgdfnhcaaBaseA9
import Derived.Test.YtigbfgmgdfnhcaaBaseA10
import Derived.Test.YtigbfgmgdfnhcaaBaseA11
import Derived.Test.YtigbfgmgdfnhcaaBaseA12
import Derived.Test.YtigbfgmgdfnhcaaBaseA13
import Derived.Test.YtigbfgmgdfnhcaaBaseA14
import Derived.Test.YtigbfgmgdfnhcaaBaseA15
import Derived.Test.YtigbfgmgdfnhcaaBaseA16
import Derived.Test.YtigbfgmgdfnhcaaBaseA17
import Derived.Test.YtigbfgmgdfnhcaaBaseA18
import Derived.Test.YtigbfgmgdfnhcaaBaseA19
import Derived.Test.YtigbfgmgdfnhcaaBaseA20
import Derived.Test.YtigbfgmgdfnhcaaBaseA21
import Derived.Test.YtigbfgmgdfnhcaaBaseA22
import Derived.Test.YtigbfgmgdfnhcaaBaseA23
import Derived.Test.YtigbfgmgdfnhcaaBaseA24
import Derived.Test.YtigbfgmgdfnhcaaBaseA25
import Derived.Test.YtigbfgmgdfnhcaaBaseA26
import Derived.Test.YtigbfgmgdfnhcaaBaseA27
import Derived.Test.YtigbfgmgdfnhcaaBaseA28
import Derived.Test.YtigbfgmgdfnhcaaBaseA29
import Derived.Test.YtigbfgmgdfnhcaaBaseA30
import Derived.Test.YtigbfgmgdfnhcaaBaseA31
import Derived.Test.YtigbfgmgdfnhcaaBaseA32
import Derived.Test.YtigbfgmgdfnhcaaBaseA33
import Derived.Test.YtigbfgmgdfnhcaaBaseA34
import Derived.Test.YtigbfgmgdfnhcaaBaseA35
import Derived.Test.YtigbfgmgdfnhcaaBaseA36
import Derived.Test.YtigbfgmgdfnhcaaBaseA37
import Derived.Test.YtigbfgmgdfnhcaaBaseA38
import Derived.Test.YtigbfgmgdfnhcaaBaseA39
import Derived.Test.YtigbfgmgdfnhcaaBaseA40
import Derived.Test.YtigbfgmgdfnhcaaBaseA41
import Derived.Test.YtigbfgmgdfnhcaaBaseA42
import Derived.Test.YtigbfgmgdfnhcaaBaseA0
set_option linter.all false
set_option linter.unusedVariables false
set_option linter.unusedSimpArgs false
namespace Go.Proofs.Ytigbfgmgdfnhcaa
open Go.RowKit
theorem compiledF_some (l : List UInt8) (fold : Bool) : ∃ q, compiledF l fold = some q := by
  obtain ⟨p, e, pl, hp⟩ := parseF_some l
  unfold compiledF
  rw [hp]
  by_cases he : e = 0
  · simp only [he, ne_eq, not_true_eq_false, if_false]
    obtain ⟨g1, g2⟩ := parseF_ok hp
    obtain ⟨q, er, hq⟩ := compileF_some g1 (g2 he) fold
    rw [hq]; exact ⟨_, rfl⟩
  · simp only [ne_eq, he, not_false_eq_true, if_true]
    exact ⟨_, rfl⟩
theorem fromF_some (p : ProgD) (l : List UInt8) : ∀ (f : Nat) (a st : Int), (a ≤ l.length → (l.length : Int) - a + 1 ≤ f) → 1 ≤ f → ∃ R, fromF p l f a st = some R
  | 0, a, st, h, h1 => by omega
  | f + 1, a, st, h, h1 => by
    unfold fromF
    obtain ⟨R, hR⟩ := atF_some p l a st
    rw [hR]
    simp only []
    split
    · exact ⟨_, rfl⟩
    · rename_i hn
      have h0 : R.err = 0 := by omega
      have := (atF_left hR).2.2.2 h0
      exact fromF_some p l f (a + 1) R.left (fun _ => by omega) (by omega)
def ResD.more (R : ResD) (d : Int) : ResD := { R with left := R.left + d }
theorem runF_fuel (p : ProgD) (l : List UInt8) (a : Nat) : ∀ (f k st : Nat) (c : Option TryD) (ts : List TryD) (R : ResD), runF p l a f st c ts = some R → runF p l a (f + k) st c ts = some R
  | 0, k, st, c, ts, R, h => by unfold runF at h; cases h
  | f + 1, k, st, none, ts, R, h => by
    rw [show f + 1 + k = (f + k) + 1 by omega]
    unfold runF at h ⊢
    cases hq : ts.getLast? with
    | none => rw [hq] at h; exact h
    | some t => rw [hq] at h; exact runF_fuel p l a f k st (some t) _ R h
  | f + 1, k, st, some t, ts, R, h => by
    rw [show f + 1 + k = (f + k) + 1 by omega]
    unfold runF at h ⊢
    cases hc : p.code[t.pc]? with
    | none => rw [hc] at h; exact runF_fuel p l a f k st none ts R h
    | some i =>
      rw [hc] at h
      cases st with
      | zero => exact h
      | succ s =>
        simp only [] at h ⊢
        split
        · rename_i h14; rw [if_pos h14] at h; exact h
        · rename_i h14
          rw [if_neg h14] at h
          cases hq : stepF p.fold l t i ts with
          | none => rw [hq] at h; exact runF_fuel p l a f k s none ts R h
          | some q => obtain ⟨t2, ts2⟩ := q; rw [hq] at h; exact runF_fuel p l a f k s (some t2) ts2 R h
theorem runF_more (p : ProgD) (l : List UInt8) (a d : Nat) : ∀ (f st : Nat) (c : Option TryD) (ts : List TryD) (R : ResD), runF p l a f st c ts = some R → R.err = 0 → runF p l a f (st + d) c ts = some (R.more d)
  | 0, st, c, ts, R, h, _ => by unfold runF at h; cases h
  | f + 1, st, none, ts, R, h, he => by
    unfold runF at h ⊢
    cases hq : ts.getLast? with
    | none => rw [hq] at h; simp only [Option.some.injEq] at h ⊢; subst h; simp [ResD.more]
    | some t => rw [hq] at h; exact runF_more p l a d f st (some t) _ R h he
  | f + 1, st, some t, ts, R, h, he => by
    unfold runF at h ⊢
    cases hc : p.code[t.pc]? with
    | none => rw [hc] at h; exact runF_more p l a d f st none ts R h he
    | some i =>
      rw [hc] at h
      cases st with
      | zero => simp only [Option.some.injEq] at h; subst h; simp [ResD.zero] at he
      | succ s =>
        rw [show s + 1 + d = (s + d) + 1 by omega]
        simp only [] at h ⊢
        split
        · rename_i h14; rw [if_pos h14] at h; simp only [Option.some.injEq] at h ⊢; subst h; simp [ResD.more]
        · rename_i h14
          rw [if_neg h14] at h
          cases hq : stepF p.fold l t i ts with
          | none => rw [hq] at h; exact runF_more p l a d f s none ts R h he
          | some q => obtain ⟨t2, ts2⟩ := q; rw [hq] at h; exact runF_more p l a d f s (some t2) ts2 R h he
theorem atF_more {p : ProgD} {l : List UInt8} {a st : Int} {R : ResD} (d : Nat) (h : atF p l a st = some R) (he : R.err = 0) (hd : st + d ≤ 5000) : atF p l a (st + d) = some (R.more d) := by
  obtain ⟨h1, h2, h3, h4, h5, h6⟩ := (atF_left h).2.2.2 he
  unfold atF at h ⊢
  rw [if_neg (by rintro (g | g | g | g | g) <;> first | exact absurd (h1.symm.trans g) (by decide) | omega)] at h ⊢
  have e : (st + d).toNat = st.toNat + d := by omega
  rw [e]
  have := runF_fuel _ _ _ _ (3 * d) _ _ _ _ (runF_more _ _ _ d _ _ _ _ _ h he)
  rw [show 3 * (st.toNat + d) + 4 = 3 * st.toNat + 4 + 3 * d by omega]
  exact this
theorem fromF_more {p : ProgD} {l : List UInt8} (d : Nat) : ∀ (f : Nat) (a st : Int) (R : ResD), fromF p l f a st = some R → R.err = 0 → st + d ≤ 5000 → fromF p l f a (st + d) = some (R.more d)
  | 0, a, st, R, h, _, _ => by unfold fromF at h; cases h
  | f + 1, a, st, R, h, he, hd => by
    unfold fromF at h
    obtain ⟨r, hr⟩ := atF_some p l a st
    rw [hr] at h
    simp only [] at h
    have hre : r.err = 0 := by
      split at h
      · injection h with h; rw [h]; exact he
      · omega
    unfold fromF
    rw [atF_more d hr hre hd]
    simp only []
    by_cases hs : r.err ≠ 0 ∨ r.is = true ∨ a = l.length
    · rw [if_pos hs] at h
      rw [if_pos (show (r.more d).err ≠ 0 ∨ (r.more d).is = true ∨ a = l.length from hs)]
      injection h with h
      rw [h]
    · rw [if_neg hs] at h
      rw [if_neg (show ¬ ((r.more d).err ≠ 0 ∨ (r.more d).is = true ∨ a = l.length) from hs)]
      have := (atF_left hr).2.2.2 hre
      exact fromF_more d f (a + 1) r.left R h he (by omega)
/-- From is At at the first place where it is or fails. -/
theorem fromF_at {p : ProgD} {l : List UInt8} : ∀ (f : Nat) (a st : Int) (R : ResD), fromF p l f a st = some R → R.err = 0 → st ≤ 5000 →
    (R.is = true ∧ ∃ k, a ≤ k ∧ k ≤ l.length ∧ (∀ j, a ≤ j → j < k → ∃ r, atF p l j 5000 = some r ∧ r.err = 0 ∧ r.is = false) ∧ ∃ r, atF p l k 5000 = some r ∧ r.err = 0 ∧ r.is = true ∧ r.m = R.m) ∨
    (R.is = false ∧ ∀ j, a ≤ j → j ≤ l.length → ∃ r, atF p l j 5000 = some r ∧ r.err = 0 ∧ r.is = false)
  | 0, a, st, R, h, _, _ => by unfold fromF at h; cases h
  | f + 1, a, st, R, h, he, hd => by
    unfold fromF at h
    obtain ⟨r, hr⟩ := atF_some p l a st
    rw [hr] at h
    simp only [] at h
    have hre : r.err = 0 := by
      split at h
      · injection h with h; rw [h]; exact he
      · omega
    have hb := (atF_left hr).2.2.2 hre
    obtain ⟨d, hdd⟩ : ∃ d : Nat, st + d = 5000 := ⟨(5000 - st).toNat, by omega⟩
    have h5 := atF_more d hr hre (by omega)
    rw [hdd] at h5
    have h5e : (r.more d).err = 0 := hre
    by_cases hs : r.err ≠ 0 ∨ r.is = true ∨ a = l.length
    · rw [if_pos hs] at h
      injection h with h
      subst h
      cases hi : r.is
      · right
        refine ⟨rfl, fun j j1 j2 => ⟨_, ?_, h5e, hi⟩⟩
        have hal : a = l.length := by rcases hs with h | h | h; exact absurd hre h; rw [hi] at h; cases h; exact h
        rw [show j = a by omega]; exact h5
      · left
        exact ⟨rfl, a, by omega, by omega, fun j j1 j2 => by omega, _, h5, h5e, hi, rfl⟩
    · rw [if_neg hs] at h
      have hi : r.is = false := by cases hq : r.is; rfl; exact absurd (.inr (.inl hq)) hs
      have hal : a ≠ l.length := fun e => hs (.inr (.inr e))
      rcases fromF_at f (a + 1) r.left R h he (by omega) with ⟨g1, k, g2, g3, g4, g5⟩ | ⟨g1, g2⟩
      · left
        refine ⟨g1, k, by omega, g3, fun j j1 j2 => ?_, g5⟩
        by_cases hj : j = a
        · rw [hj]; exact ⟨_, h5, h5e, hi⟩
        · exact g4 j (by omega) j2
      · right
        refine ⟨g1, fun j j1 j2 => ?_⟩
        by_cases hj : j = a
        · rw [hj]; exact ⟨_, h5, h5e, hi⟩
        · exact g2 j (by omega) j2
end Go.Proofs.Ytigbfgmgdfnhcaa
