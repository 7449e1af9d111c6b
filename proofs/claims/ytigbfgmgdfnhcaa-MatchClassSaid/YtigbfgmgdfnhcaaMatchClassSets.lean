/- Plain laws on sets of bytes: four words of 64 bits. -/
import Derived.Test.YtigbfgmgdfnhcaaBaseA1
import Derived.Test.YtigbfgmgdfnhcaaBaseA0
set_option linter.all false
set_option linter.unusedVariables false
set_option linter.unusedSimpArgs false
namespace Go.Proofs.Ytigbfgmgdfnhcaa
open Go.RowKit

theorem u64_max : IntKind.u64.max = ((18446744073709551615 : Nat) : Int) := by decide
theorem xor_u64_nat (a b : Nat) (ha : a < 18446744073709551616) (hb : b < 18446744073709551616) : bits BinOp.xor .u64 (a : Int) (b : Int) = ((a ^^^ b : Nat) : Int) := bits_xor_u64_nat a b ha hb
theorem and_u64_nat (a b : Nat) (ha : a < 18446744073709551616) (hb : b < 18446744073709551616) : bits BinOp.and .u64 (a : Int) (b : Int) = ((a &&& b : Nat) : Int) := bits_and_u64_nat a b ha hb
theorem or_u64_nat (a b : Nat) (ha : a < 18446744073709551616) (hb : b < 18446744073709551616) : bits BinOp.or .u64 (a : Int) (b : Int) = ((a ||| b : Nat) : Int) := bits_or_u64_nat a b ha hb

theorem p64 : (2 : Nat) ^ 64 = 18446744073709551616 := by decide
theorem pow_lt (k : Nat) (hk : k < 64) : 2 ^ k < 18446744073709551616 := by rw [← p64]; exact Nat.pow_lt_pow_right (by omega) hk
theorem or_lt {a b : Nat} (ha : a < 18446744073709551616) (hb : b < 18446744073709551616) : a ||| b < 18446744073709551616 := by
  rw [← p64] at *; exact Nat.or_lt_two_pow ha hb
theorem xor_lt {a b : Nat} (ha : a < 18446744073709551616) (hb : b < 18446744073709551616) : a ^^^ b < 18446744073709551616 := by
  rw [← p64] at *; exact Nat.xor_lt_two_pow ha hb

/-- A word with one bit more. -/
def wN (j n c : Nat) : Nat := if c / 64 = j then n ||| 2 ^ (c % 64) else n
theorem wN_lt {j n c : Nat} (hn : n < 18446744073709551616) : wN j n c < 18446744073709551616 := by
  unfold wN; split
  · exact or_lt hn (pow_lt _ (Nat.mod_lt _ (by omega)))
  · exact hn
theorem withJ_nat (j n c : Nat) (hn : n < 18446744073709551616) : withJ (j : Int) (n : Int) (c : Int) = (wN j n c : Int) := by
  unfold withJ wN
  have e1 : ((c : Int) / 64 = j) ↔ (c / 64 = j) := by omega
  have e2 : ((c : Int) % 64).toNat = c % 64 := by omega
  simp only [e1, e2]
  split
  · have hp := pow_lt (c % 64) (Nat.mod_lt _ (by omega))
    have e3 : (2 : Int) ^ (c % 64) = ((2 ^ (c % 64) : Nat) : Int) := by simp
    have e4 : ∀ m : Nat, m < 18446744073709551616 → IntKind.u64.wrap (m : Int) = (m : Int) := by
      intro m hm
      rw [IntKind.wrap_u64]; omega
    rw [e3, e4 _ hp]
    exact or_u64_nat _ _ hn hp
  · rfl

theorem wN_bit {j n c i : Nat} (hi : i < 64) : (wN j n c).testBit i = (n.testBit i || decide (c = 64 * j + i)) := by
  unfold wN; split
  · rename_i h
    rw [Nat.testBit_or, Nat.testBit_two_pow]
    congr 1
    simp only [decide_eq_decide]; omega
  · rename_i h
    have : decide (c = 64 * j + i) = false := by simp; omega
    rw [this]; simp

def accN (p : Int → Bool) (j : Nat) : Nat → Nat
  | 0 => 0
  | k + 1 => if p k = true then wN j (accN p j k) k else accN p j k
theorem accN_lt (p : Int → Bool) (j k : Nat) : accN p j k < 18446744073709551616 := by
  induction k with
  | zero => simp [accN]
  | succ k ih =>
    simp only [accN]; split
    · exact wN_lt ih
    · exact ih
theorem acc_nat (p : Int → Bool) (j k : Nat) : accJ p (j : Int) k = (accN p j k : Int) := by
  induction k with
  | zero => rfl
  | succ k ih =>
    simp only [accJ, accN]; split
    · rw [ih, withJ_nat _ _ _ (accN_lt _ _ _)]
    · exact ih
theorem accN_bit (p : Int → Bool) (j k i : Nat) (hi : i < 64) : (accN p j k).testBit i = (decide (64 * j + i < k) && p ((64 * j + i : Nat) : Int)) := by
  induction k with
  | zero => simp [accN]
  | succ k ih =>
    simp only [accN]; split
    · rename_i h
      rw [wN_bit hi, ih]
      by_cases e : k = 64 * j + i
      · subst e; simp only [h]; simp
      · have e1 : decide (k = 64 * j + i) = false := by simp [e]
        have e2 : decide (64 * j + i < k + 1) = decide (64 * j + i < k) := by simp only [decide_eq_decide]; omega
        rw [e1, e2]; simp
    · rename_i h
      rw [ih]
      by_cases e : k = 64 * j + i
      · subst e
        have h' : p ((64 * j + i : Nat) : Int) = false := by simpa using h
        rw [h']; simp
      · have e2 : decide (64 * j + i < k + 1) = decide (64 * j + i < k) := by simp only [decide_eq_decide]; omega
        rw [e2]

theorem word_ext {a b : Nat} (ha : a < 18446744073709551616) (hb : b < 18446744073709551616) (h : ∀ i, i < 64 → a.testBit i = b.testBit i) : a = b := by
  apply Nat.eq_of_testBit_eq
  intro i
  by_cases hi : i < 64
  · exact h i hi
  · rw [← p64] at ha hb
    rw [Nat.testBit_lt_two_pow (Nat.lt_of_lt_of_le ha (Nat.pow_le_pow_right (by omega) (by omega))), Nat.testBit_lt_two_pow (Nat.lt_of_lt_of_le hb (Nat.pow_le_pow_right (by omega) (by omega)))]

theorem notI_nat (n : Nat) (hn : n < 18446744073709551616) : notI (n : Int) = ((18446744073709551615 ^^^ n : Nat) : Int) := by
  unfold notI; rw [u64_max]; exact xor_u64_nat _ _ (by omega) hn
theorem not_bit (n i : Nat) (hi : i < 64) : (18446744073709551615 ^^^ n).testBit i = !n.testBit i := by
  rw [Nat.testBit_xor, show (18446744073709551615 : Nat) = 2 ^ 64 - 1 from by decide, Nat.testBit_two_pow_sub_one]
  simp [hi]
theorem bothI_nat (a b : Nat) (ha : a < 18446744073709551616) (hb : b < 18446744073709551616) : bothI (a : Int) (b : Int) = ((a ||| b : Nat) : Int) := or_u64_nat a b ha hb

theorem accJ_congr {p q : Int → Bool} (j : Int) (k : Nat) (h : ∀ c : Nat, c < k → p c = q c) : accJ p j k = accJ q j k := by
  induction k with
  | zero => rfl
  | succ k ih =>
    simp only [accJ]
    rw [h k (by omega), ih (fun c hc => h c (by omega))]

theorem not_acc {p q : Int → Bool} (j : Nat) (hj : j < 4) (h : ∀ c : Nat, c < 256 → q c = !p c) : notI (accJ p (j : Int) 256) = accJ q (j : Int) 256 := by
  rw [acc_nat, acc_nat, notI_nat _ (accN_lt _ _ _)]
  congr 1
  apply word_ext (xor_lt (by omega) (accN_lt _ _ _)) (accN_lt _ _ _)
  intro i hi
  rw [not_bit _ _ hi, accN_bit _ _ _ _ hi, accN_bit _ _ _ _ hi, h _ (by omega)]
  have : decide (64 * j + i < 256) = true := by simp; omega
  rw [this]; simp

theorem both_acc {p q r : Int → Bool} (j : Nat) (h : ∀ c : Nat, c < 256 → r c = (p c || q c)) : bothI (accJ p (j : Int) 256) (accJ q (j : Int) 256) = accJ r (j : Int) 256 := by
  rw [acc_nat, acc_nat, acc_nat, bothI_nat _ _ (accN_lt _ _ _) (accN_lt _ _ _)]
  congr 1
  apply word_ext (or_lt (accN_lt _ _ _) (accN_lt _ _ _)) (accN_lt _ _ _)
  intro i hi
  rw [Nat.testBit_or, accN_bit _ _ _ _ hi, accN_bit _ _ _ _ hi, accN_bit _ _ _ _ hi]
  by_cases hlt : 64 * j + i < 256
  · rw [h _ hlt]; simp [hlt]
  · simp [hlt]

/-- A bit of four words. -/
def selN (n0 n1 n2 n3 c : Nat) : Nat := if c / 64 = 0 then n0 else if c / 64 = 1 then n1 else if c / 64 = 2 then n2 else n3
theorem selJ_nat (n0 n1 n2 n3 c : Nat) : selJ (n0 : Int) (n1 : Int) (n2 : Int) (n3 : Int) (c : Int) = (selN n0 n1 n2 n3 c : Int) := by
  unfold selJ selN
  have e0 : ((c : Int) / 64 = 0) ↔ (c / 64 = 0) := by omega
  have e1 : ((c : Int) / 64 = 1) ↔ (c / 64 = 1) := by omega
  have e2 : ((c : Int) / 64 = 2) ↔ (c / 64 = 2) := by omega
  simp only [e0, e1, e2]
  repeat' split
  all_goals rfl
theorem selN_lt {n0 n1 n2 n3 c : Nat} (h0 : n0 < 18446744073709551616) (h1 : n1 < 18446744073709551616) (h2 : n2 < 18446744073709551616) (h3 : n3 < 18446744073709551616) : selN n0 n1 n2 n3 c < 18446744073709551616 := by
  unfold selN; repeat' split
  all_goals assumption

theorem bit_at (n k : Nat) (hn : n < 18446744073709551616) : bits BinOp.and .u64 ((n : Int) / 2 ^ k) 1 = if n.testBit k = true then 1 else 0 := by
  have e : ((n : Int) / 2 ^ k) = ((n / 2 ^ k : Nat) : Int) := by simp
  rw [e, show (1 : Int) = ((1 : Nat) : Int) from rfl, and_u64_nat _ _ (Nat.lt_of_le_of_lt (Nat.div_le_self _ _) hn) (by omega)]
  rw [Nat.and_one_is_mod, Nat.testBit_eq_decide_div_mod_eq]
  by_cases h : n / 2 ^ k % 2 = 1
  · simp [h]
  · have : n / 2 ^ k % 2 = 0 := by omega
    simp [this]

theorem hasB_nat (n0 n1 n2 n3 c : Nat) (h0 : n0 < 18446744073709551616) (h1 : n1 < 18446744073709551616) (h2 : n2 < 18446744073709551616) (h3 : n3 < 18446744073709551616) :
    hasB (n0 : Int) (n1 : Int) (n2 : Int) (n3 : Int) (c : Int) = (selN n0 n1 n2 n3 c).testBit (c % 64) := by
  unfold hasB
  rw [selJ_nat, show ((c : Int) % 64).toNat = c % 64 from by omega, bit_at _ _ (selN_lt h0 h1 h2 h3)]
  cases (selN n0 n1 n2 n3 c).testBit (c % 64) <;> simp
theorem rhasB_nat (n0 n1 n2 n3 c : Nat) (h0 : n0 < 18446744073709551616) (h1 : n1 < 18446744073709551616) (h2 : n2 < 18446744073709551616) (h3 : n3 < 18446744073709551616) :
    rhasB (n0 : Int) (n1 : Int) (n2 : Int) (n3 : Int) (c : Int) = (selN n0 n1 n2 n3 c).testBit (c % 64) := by
  unfold rhasB
  rw [selJ_nat, show ((c : Int) % 64).toNat = c % 64 from by omega, bit_at _ _ (selN_lt h0 h1 h2 h3)]
  cases (selN n0 n1 n2 n3 c).testBit (c % 64) <;> simp

theorem has_acc (p : Int → Bool) (c : Nat) (hc : c < 256) : hasB (accJ p 0 256) (accJ p 1 256) (accJ p 2 256) (accJ p 3 256) (c : Int) = p c := by
  have e0 := acc_nat p 0 256
  have e1 := acc_nat p 1 256
  have e2 := acc_nat p 2 256
  have e3 := acc_nat p 3 256
  simp only [Int.natCast_zero, Int.natCast_one] at e0 e1
  rw [show (2 : Int) = ((2 : Nat) : Int) from rfl, show (3 : Int) = ((3 : Nat) : Int) from rfl, e0, e1, e2, e3, hasB_nat _ _ _ _ _ (accN_lt _ _ _) (accN_lt _ _ _) (accN_lt _ _ _) (accN_lt _ _ _)]
  have hm : c % 64 < 64 := Nat.mod_lt _ (by omega)
  have key : ∀ j, c / 64 = j → (accN p j 256).testBit (c % 64) = p c := by
    intro j hj
    rw [accN_bit _ _ _ _ hm, show 64 * j + c % 64 = c from by omega]
    simp [hc]
  unfold selN
  repeat' split
  · exact key 0 (by omega)
  · exact key 1 (by omega)
  · exact key 2 (by omega)
  · exact key 3 (by omega)
end Go.Proofs.Ytigbfgmgdfnhcaa
