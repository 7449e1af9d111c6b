/- Plain law of what is cut without a name: through the registers 1 to 9. -/
import Derived.Test.YtlhcojclfgbobaaRegJ
namespace Go.Proofs.Ytlhcojclfgbobaa
open Go.RowKit

theorem clone_same {x : RegD} (h : x.lines ≠ []) : x.clone = x := by simp [RegD.clone, h]

theorem cut_plain (M : Int → Option RegD) (x : RegD) (hne : x.lines ≠ []) (hs : wrap64 (sizeR x) ≤ 20000) : cutM M 34 x = (0, setM (shM (setM (setM M 34 (some x)) 34 (some x)) 49) 49 (some x)) := by
  have h1 : layM M 34 x = (0, setM (setM M 34 (some x)) 34 (some x)) := by rw [layM_34, if_neg (by omega)]
  have h2 : cutM M 34 x = ((layM M 34 x.clone).1, if (layM M 34 x.clone).1 = 0 ∧ (34 : Int) = 34 then setM (shM (layM M 34 x.clone).2 49) 49 (some x.clone) else (layM M 34 x.clone).2) := by unfold cutM; exact Eq.refl _
  rw [h2, clone_same hne, h1]
  exact congrArg (Prod.mk _) (if_pos (And.intro (Eq.refl _) (Eq.refl _)))

theorem set_sh (M : Int → Option RegD) (v : Option RegD) (k : Int) (hk : ¬ k = 34) (hk2 : ¬ k - 1 = 34) : setM (shM (setM (setM M 34 v) 34 v) 49) 49 v k = if k = 49 then v else if 49 < k ∧ k ≤ 57 then M (k - 1) else M k := by
  have h1 : setM (setM M 34 v) 34 v k = M k := (if_neg hk).trans (if_neg hk)
  have h2 : setM (setM M 34 v) 34 v (k - 1) = M (k - 1) := (if_neg hk2).trans (if_neg hk2)
  generalize setM (setM M 34 v) 34 v = N at *
  rw [← h1, ← h2]
  rfl
theorem cut_at (M : Int → Option RegD) (x : RegD) (hne : x.lines ≠ []) (hs : wrap64 (sizeR x) ≤ 20000) (k : Int) (hk : ¬ k = 34) (hk2 : ¬ k - 1 = 34) : (cutM M 34 x).2 k = if k = 49 then some x else if 49 < k ∧ k ≤ 57 then M (k - 1) else M k := by
  have h := congrFun (congrArg Prod.snd (cut_plain M x hne hs)) k
  rw [h]
  exact set_sh M (some x) k hk hk2

/-- What is in the registers behind cuts, the last one first. -/
def afterR : List RegD → Int → Option RegD
  | [] => fun _ => none
  | y :: ys => (cutM (afterR ys) 34 y).2
theorem afterR_cons (y : RegD) (ys : List RegD) (k : Int) : afterR (y :: ys) k = (cutM (afterR ys) 34 y).2 k := by rw [afterR]
theorem after_rev : ∀ (ys : List RegD), (∀ x ∈ ys, x.lines ≠ [] ∧ wrap64 (sizeR x) ≤ 20000) → (∀ k : Nat, k < 9 → afterR ys (49 + (k : Int)) = ys[k]?) ∧ afterR ys 48 = none
  | [], _ => ⟨fun k _ => by rw [afterR]; simp, by rw [afterR]⟩
  | y :: ys, h => by
    have ih := after_rev ys (fun z hz => h z (List.mem_cons_of_mem _ hz))
    have hy := h y (List.mem_cons_self ..)
    have key := fun k hk hk2 => (afterR_cons y ys k).trans (cut_at (afterR ys) y hy.1 hy.2 k hk hk2)
    generalize afterR ys = N at *
    generalize afterR (y :: ys) = N2 at *
    refine ⟨fun k hk => ?_, ?_⟩
    · rw [key (49 + (k : Int)) (by omega) (by omega)]
      cases k with
      | zero => rw [if_pos (by simp)]; simp
      | succ k =>
        rw [if_neg (by omega), if_pos (by omega)]
        have e : (49 : Int) + ((k + 1 : Nat) : Int) - 1 = 49 + (k : Int) := by omega
        rw [e, ih.1 k (by omega)]
        simp
    · rw [key 48 (by decide) (by decide), if_neg (by decide), if_neg (by decide)]
      exact ih.2
end Go.Proofs.Ytlhcojclfgbobaa
