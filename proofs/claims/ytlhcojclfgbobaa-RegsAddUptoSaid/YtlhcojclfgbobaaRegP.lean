/- Plain laws of what is yanked into letters. -/
import Derived.Test.YtlhcojclfgbobaaRegO
namespace Go.Proofs.Ytlhcojclfgbobaa
open Go.RowKit

def boundM (M : Int → Option RegD) : Prop := ∀ c r, M c = some r → sizeR r ≤ 20000
theorem boundM_set {M : Int → Option RegD} {k : Int} {r : RegD} (h : boundM M) (hr : sizeR r ≤ 20000) : boundM (setM M k (some r)) := by
  intro c s hs
  unfold setM at hs
  split at hs
  · cases hs; exact hr
  · exact h c s hs
theorem laid_size {M : Int → Option RegD} {c : Int} {x : RegD} (h : boundM M) (hx : sizeR x ≤ 2000001) : sizeR (laidX M c x) ≤ 4000002 := by
  unfold laidX
  split
  · omega
  · split
    · omega
    · rename_i o ho
      have := (bothR_size o x 2000001 (by have := h _ _ ho; omega) hx (by omega)).1
      omega
theorem wrap_small {n : Nat} (h : n ≤ 4000002) : wrap64 (n : Int) = n := by unfold wrap64; omega
theorem lay_bound {M : Int → Option RegD} {c : Int} {x : RegD} (h : boundM M) (hx : sizeR x ≤ 2000001) : boundM (layM M c x).2 := by
  unfold layM
  split
  · exact h
  · split
    · exact h
    · split
      · exact h
      · rename_i hn
        have h4 := laid_size (c := c) h hx
        rw [wrap_small h4] at hn
        exact boundM_set (boundM_set h (by omega)) (by omega)
theorem yank_bound {M : Int → Option RegD} {c : Int} {x : RegD} (h : boundM M) (hx : sizeR x ≤ 2000000) : boundM (yankM M c x).2 := by
  have hcs := RegD.clone_size hx (by omega)
  have hl := lay_bound (c := c) h (show sizeR x.clone ≤ 2000001 by omega)
  unfold yankM
  simp only
  split
  · rename_i hh
    obtain ⟨h0, rfl⟩ := hh
    refine boundM_set hl ?_
    rw [layM_34] at h0
    split at h0
    · cases h0
    · rename_i hn
      rw [wrap_small (by omega)] at hn
      omega
  · exact hl

theorem letter_facts (j : Nat) (h : j < 26) : smallI (97 + (j : Int)) = 97 + j ∧ knownN (97 + (j : Int)) = true ∧ smallI (65 + (j : Int)) = 97 + j ∧ knownN (65 + (j : Int)) = true := by
  have key : ∀ j ∈ List.range 26, smallI (97 + (j : Int)) = 97 + j ∧ knownN (97 + (j : Int)) = true ∧ smallI (65 + (j : Int)) = 97 + j ∧ knownN (65 + (j : Int)) = true := by decide
  exact key j (List.mem_range.2 h)

/-- What comes of a yank into a small letter. -/
theorem yank_letter (M : Int → Option RegD) (j : Nat) (h : j < 26) (x : RegD) :
    yankM M (97 + (j : Int)) x = if (20000 : Int) < wrap64 (sizeR x.clone) then (112, M) else (0, setM (setM M (97 + (j : Int)) (some x.clone)) 34 (some x.clone)) := by
  obtain ⟨h1, h2, _⟩ := letter_facts j h
  have hl : layM M (97 + (j : Int)) x.clone = if (20000 : Int) < wrap64 (sizeR x.clone) then (112, M) else (0, setM (setM M (97 + (j : Int)) (some x.clone)) 34 (some x.clone)) := by
    have hx : laidX M (97 + (j : Int)) x.clone = x.clone := by unfold laidX; rw [if_pos h1]
    unfold layM
    rw [hx, h1, if_neg (by simp [h2]), if_neg (by omega)]
  unfold yankM
  generalize layM M (97 + (j : Int)) x.clone = L at *
  rw [if_neg (fun hh => by have h2 := hh.2; clear hh hl; omega)]
  exact hl

theorem clone_clone (x : RegD) : x.clone.clone = x.clone := clone_same x.clone_ne

theorem getM_hit {M : Int → Option RegD} {c : Int} {r : RegD} (h1 : knownN c = true) (h2 : M (smallI c) = some r) : getM M c = (r.clone, 0) := by
  unfold getM
  rw [if_neg (by simp [h1]), h2]
theorem getM_congr {M N : Int → Option RegD} {c : Int} (h : M (smallI c) = N (smallI c)) : getM M c = getM N c := by
  unfold getM
  rw [h]

/-- The laws of RegsKeep. -/
theorem keep_other (M : Int → Option RegD) (j k : Nat) (h : j < 26) (hk : k < 26) (hne : j ≠ k) (x : RegD) : getM (yankM M (97 + (j : Int)) x).2 (97 + (k : Int)) = getM M (97 + (k : Int)) := by
  rw [yank_letter M j h x]
  split
  · rfl
  · refine getM_congr ?_
    rw [(letter_facts k hk).1]
    simp only [setM]
    rw [if_neg (by omega), if_neg (by omega)]
theorem keep_hit (M : Int → Option RegD) (j : Nat) (h : j < 26) (x : RegD) (h0 : (yankM M (97 + (j : Int)) x).1 = 0) :
    getM (yankM M (97 + (j : Int)) x).2 (97 + (j : Int)) = (x.clone, 0) ∧ getM (yankM M (97 + (j : Int)) x).2 34 = (x.clone, 0) ∧ getM (yankM M (97 + (j : Int)) x).2 (65 + (j : Int)) = (x.clone, 0) := by
  rw [yank_letter M j h x] at h0 ⊢
  split
  · rename_i hh; rw [if_pos hh] at h0; cases h0
  · obtain ⟨h1, h2, h3, h4⟩ := letter_facts j h
    refine ⟨?_, ?_, ?_⟩
    · rw [getM_hit (r := x.clone) h2 (by rw [h1]; simp only [setM]; rw [if_neg (by omega), if_pos trivial]), clone_clone]
    · rw [getM_hit (r := x.clone) (by decide) (by rw [small34]; simp only [setM]; rw [if_pos trivial]), clone_clone]
    · rw [getM_hit (r := x.clone) h4 (by rw [h3]; simp only [setM]; rw [if_neg (by omega), if_pos trivial]), clone_clone]
theorem keep_err (M : Int → Option RegD) (j : Nat) (h : j < 26) (x : RegD) : (yankM M (97 + (j : Int)) x).1 = 0 ∨ (yankM M (97 + (j : Int)) x).1 = 112 := by
  rw [yank_letter M j h x]
  split
  · exact .inr rfl
  · exact .inl rfl
end Go.Proofs.Ytlhcojclfgbobaa
