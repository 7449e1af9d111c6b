/- Plain words: a text as a pattern that is itself; its program, and where that fits. -/
import Derived.Test.YtigbfgmgdfnhcaaBaseA41
import Derived.Test.YtigbfgmgdfnhcaaBaseA42
import Derived.Test.YtigbfgmgdfnhcaaBaseA0
set_option linter.all false
set_option linter.unusedVariables false
set_option linter.unusedSimpArgs false
namespace Go.Proofs.Ytigbfgmgdfnhcaa
open Go.RowKit

def escL : List UInt8 → List UInt8
  | [] => []
  | c :: s => if c = 92 then 92 :: 92 :: escL s else c :: escL s
def wordL (s : List UInt8) : List UInt8 := 92 :: 86 :: escL s
def byteN (c : UInt8) : NodeD := { op := 2, c := (c.toNat : Int) }
def byteI (c : UInt8) : InstD := { op := 1, c := (c.toNat : Int) }
def qWord (s : List UInt8) (fold : Bool) : ProgD := ⟨s.map byteI ++ [{ op := 14 }], 0, fold⟩
theorem escL_len : ∀ s : List UInt8, s.length ≤ (escL s).length ∧ (escL s).length ≤ 2 * s.length
  | [] => by simp [escL]
  | c :: s => by
    have := escL_len s
    unfold escL
    split <;> simp <;> omega
theorem bl_drop0 (l : List UInt8) (p : Nat) : bl l p = bl (l.drop p) 0 := by
  unfold bl
  rw [List.getElem?_drop, Nat.add_zero]
theorem tok_word {l : List UInt8} {p : Nat} {c : UInt8} {s : List UInt8} (h : l.drop p = escL (c :: s)) (cs : Int) :
    tokenF l 86 cs p = (⟨0, byteN c, false, p + (if c = 92 then 2 else 1), 86, cs⟩, true) ∧ l.drop (p + (if c = 92 then 2 else 1)) = escL s ∧ p + (if c = 92 then 2 else 1) ≤ l.length := by
  have hne : p < l.length := by
    rcases Nat.lt_or_ge p l.length with h1 | h1
    · exact h1
    · rw [List.drop_eq_nil_of_le h1] at h
      unfold escL at h
      split at h <;> cases h
  have hlen : (l.drop p).length = l.length - p := List.length_drop
  unfold escL at h
  by_cases hc : c = 92
  · rw [if_pos hc] at h
    rw [if_pos hc, hc]
    have h0 : bl l p = 92 := by rw [bl_drop0, h]; rfl
    have h1 : bl l (p + 1) = 92 := by rw [bl_drop0, ← List.drop_drop, h]; rfl
    have h2 : p + 2 ≤ l.length := by rw [h] at hlen; simp at hlen; omega
    refine ⟨?_, by rw [← List.drop_drop, h]; rfl, h2⟩
    unfold tokenF
    rw [if_pos h0]
    unfold slashF
    rw [h1, if_neg (by omega)]
    rfl
  · rw [if_neg hc] at h
    rw [if_neg hc]
    have h0 : bl l p = (c.toNat : Int) := by rw [bl_drop0, h]; rfl
    refine ⟨?_, by rw [← List.drop_drop, h]; rfl, hne⟩
    unfold tokenF
    rw [h0, if_neg (fun e => hc (UInt8.toNat_inj.1 (show c.toNat = 92 by omega))), if_neg (by rw [show plainL 86 = [] from rfl]; simp [inL])]
    rfl
theorem branch_word (rec : RdD → Option (Nat × RdD)) (l : List UInt8) (dn : List Bool) : ∀ (s : List UInt8) (f p : Nat) (ns : List NodeD) (ks : List Nat) (m : Bool), l.drop p = escL s → p ≤ l.length → ns.length + s.length ≤ 400 →
    ∃ m2, branchL rec l false (f + s.length + 1) ⟨p, 86, 0, dn, 0, 0, 0, ns⟩ ⟨ks, m⟩ = some (⟨l.length, 86, 0, dn, 0, 0, 0, ns ++ s.map byteN⟩, ⟨ks ++ List.range' ns.length s.length, m2⟩)
  | [], f, p, ns, ks, m, h, hp, hn => by
    have hlen : (l.drop p).length = l.length - p := List.length_drop
    rw [h] at hlen
    simp [escL] at hlen
    obtain rfl : p = l.length := by omega
    refine ⟨m, ?_⟩
    unfold branchL
    simp
  | c :: s, f, p, ns, ks, m, h, hp, hn => by
    obtain ⟨ht, hd, hl⟩ := tok_word h 0
    have hlt : ¬ l.length ≤ p := by split at hl <;> omega
    simp only [List.length_cons] at hn
    obtain ⟨m2, e⟩ := branch_word rec l dn s f (p + (if c = 92 then 2 else 1)) (ns ++ [byteN c]) (ks ++ [ns.length]) true hd hl (by simp; omega)
    refine ⟨m2, ?_⟩
    rw [show f + (c :: s).length + 1 = (f + s.length + 1) + 1 by simp; omega]
    unfold branchL
    rw [if_neg (by simp; omega)]
    simp only [ht]
    rw [if_neg (by decide), if_neg (by decide), if_neg (by decide), if_neg (by decide), if_neg (by decide), if_neg (by rintro ⟨e, _⟩; exact absurd (show (2 : Int) = 9 from e) (by decide))]
    unfold RdD.laid RdD.node
    simp only []
    rw [if_neg (by omega)]
    unfold BrD.piece
    simp only []
    rw [show ((byteN c).op != 14 && (byteN c).op != 15) = true from rfl, e]
    simp [List.range'_succ]
def patW (s : List UInt8) : PatD := match s with
  | [] => ⟨[{ op := 1 }], 0, 0, 0⟩
  | [c] => ⟨[byteN c], 0, 0, 0⟩
  | a :: b :: s => ⟨(a :: b :: s).map byteN ++ [{ op := 5, kids := List.range' 0 (s.length + 2) }], s.length + 2, 0, 0⟩
theorem parse_word (s : List UInt8) (hs : s.length ≤ 100) : parseF (wordL s) = some (patW s, 0, 0) := by
  have hl := escL_len s
  have hll : (wordL s).length = (escL s).length + 2 := rfl
  obtain ⟨m2, hb⟩ := branch_word (branchesF (wordL s) 10 true) (wordL s) (List.replicate 10 false) s ((escL s).length + 1 - s.length) 2 [] [] false rfl (by omega) (by simp; omega)
  rw [show (escL s).length + 1 - s.length + s.length + 1 = (wordL s).length by omega] at hb
  have h1 : branchL (branchesF (wordL s) 10 true) (wordL s) false ((wordL s).length + 1) RdD.start ⟨[], false⟩ = some (⟨(wordL s).length, 86, 0, List.replicate 10 false, 0, 0, 0, s.map byteN⟩, ⟨List.range' 0 s.length, m2⟩) := by
    rw [branchL]
    rw [if_neg (by rw [hll]; show ¬ ((0 : Int) ≠ 0 ∨ _ ≤ 0); omega)]
    have ht : tokenF (wordL s) RdD.start.mode RdD.start.case RdD.start.pos = (⟨0, .zero, true, 2, 86, 0⟩, true) := by
      show tokenF (92 :: 86 :: escL s) 109 0 0 = _
      unfold tokenF slashF
      rw [show bl (92 :: 86 :: escL s) 0 = 92 from rfl, show bl (92 :: 86 :: escL s) (0 + 1) = 86 from rfl]
      rw [if_pos rfl, if_neg (by simp)]
      rfl
    rw [ht]
    simp only [Bool.true_eq_false, if_false, if_true]
    exact hb
  have hp : ∀ (d : List Bool) (n : List NodeD) (w : Nat), branchesL (branchesF (wordL s) 10 true) (wordL s) false ((wordL s).length + 1) ⟨(wordL s).length, 86, 0, d, 0, 0, 0, n⟩ [w] = some (⟨(wordL s).length, 86, 0, d, 0, 0, 0, n⟩, [w]) := by
    intro d n w
    rw [branchesL]
    simp
  unfold parseF
  rw [if_neg (by omega)]
  rw [branchesF]
  unfold branchF
  rw [h1]
  match s, hs with
  | [], _ =>
    simp only [RdD.row, List.map_nil, List.length_nil, List.range'_zero]
    unfold RdD.node
    simp only [List.length_nil, Nat.not_lt_zero, if_false, List.nil_append]
    rw [hp]
    rfl
  | [c], _ =>
    simp only [List.map_cons, List.map_nil, List.length_cons, List.length_nil, Nat.zero_add, List.range'_one, RdD.row]
    rw [hp]
    rfl
  | a :: b :: s, hs =>
    simp only [List.length_cons] at hs
    have hr : List.range' 0 (a :: b :: s).length = 0 :: 1 :: List.range' 2 s.length := by simp [List.range'_succ]
    rw [hr]
    simp only [RdD.row]
    unfold RdD.node
    simp only []
    rw [if_neg (by simp; omega)]
    simp only []
    rw [hp]
    simp only [RdD.row, ne_eq, not_true_eq_false, if_false]
    rw [if_neg (by simp; omega)]
    rw [← hr]
    simp [patW]
end Go.Proofs.Ytigbfgmgdfnhcaa
