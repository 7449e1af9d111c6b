/- Plain words: a text at a place, as a piece of the line; letters' ways. -/
import Derived.Test.YtigbfgmgdfnhcaaWe
import Derived.Test.YtigbfgmgdfnhcaaWor
import Derived.Test.YtigbfgmgdfnhcaaBaseA0
set_option linter.all false
set_option linter.unusedVariables false
set_option linter.unusedSimpArgs false
namespace Go.Proofs.Ytigbfgmgdfnhcaa
open Go.RowKit

theorem eqAt_take (l : List UInt8) : ∀ (s : List UInt8) (p : Nat), p + s.length ≤ l.length → (eqAt false l p s = true ↔ (l.drop p).take s.length = s)
  | [], p, h => by simp [eqAt]
  | c :: s, p, h => by
    simp only [List.length_cons] at h
    have hp : p < l.length := by omega
    have e : l.drop p = l[p] :: l.drop (p + 1) := List.drop_eq_getElem_cons hp
    have hb : bl l p = (l[p].toNat : Int) := by
      unfold bl
      rw [List.getElem?_eq_getElem hp]
      rfl
    have ih := eqAt_take l s (p + 1) (by omega)
    rw [eqAt, e, List.length_cons, List.take_succ_cons, List.cons.injEq, Bool.and_eq_true, Bool.and_eq_true, ih, hb]
    unfold sameB
    simp only [Bool.false_and, Bool.or_false, beq_iff_eq, decide_eq_true_eq]
    constructor
    · rintro ⟨⟨_, h1⟩, h2⟩
      exact ⟨UInt8.toNat_inj.1 (by omega), h2⟩
    · rintro ⟨h1, h2⟩
      exact ⟨⟨hp, by rw [h1]⟩, h2⟩
theorem eqAt_piece (l s : ByteArray) (p : Nat) (h : p + s.size ≤ l.size) : eqAt false l.data.toList p s.data.toList = true ↔ l.extract p (p + s.size) = s := by
  rw [eqAt_take _ _ _ (by simpa using h)]
  have e : (l.extract p (p + s.size)).data.toList = (l.data.toList.drop p).take s.data.toList.length := by
    rw [ByteArray.data_extract, Array.toList_extract, List.extract_eq_take_drop]
    congr 1
    simp
  constructor
  · intro g
    apply ByteArray.ext
    apply Array.ext'
    rw [e, g]
  · intro g
    rw [← e, g]
theorem small_len (l : List UInt8) : (smallL l).length = l.length := by simp [smallL]
theorem bl_small (l : List UInt8) (p : Nat) (h : p < l.length) : bl (smallL l) p = smallI (bl l p) := by
  unfold bl smallL
  rw [List.getElem?_map, List.getElem?_eq_getElem h]
  have hr := smallI_u8 l[p]
  simp
  omega
theorem eqAt_small (l : List UInt8) : ∀ (s : List UInt8) (p : Nat), eqAt true l p s = eqAt false (smallL l) p (smallL s)
  | [], p => rfl
  | c :: s, p => by
    show _ = eqAt false (smallL l) p (UInt8.ofNat (smallI (c.toNat : Int)).toNat :: smallL s)
    rw [eqAt, eqAt, eqAt_small l s (p + 1), small_len]
    by_cases h : p < l.length
    · have hr := smallI_u8 c
      have hc : ((UInt8.ofNat (smallI (c.toNat : Int)).toNat).toNat : Int) = smallI (c.toNat : Int) := by simp; omega
      rw [bl_small l p h, hc]
      congr 2
      unfold sameB
      simp only [Bool.true_and, Bool.false_and, Bool.or_false]
      rw [Bool.eq_iff_iff]
      simp only [Bool.or_eq_true, beq_iff_eq]
      constructor
      · rintro (g | g)
        · rw [g]
        · exact g
      · intro g
        exact .inr g
    · simp [h]
/-- From, of a text as a pattern: the first place at which it stands. -/
theorem from_text (fold : Bool) (s l : List UInt8) (hs : s.length ≤ 40) (hl : l.length ≤ 60) : ∃ (m : MatchD) (left : Int) (is : Bool) (j : Nat), fromF (qWord s fold) l (l.length + 2) 0 5000 = some ⟨m, left, is, 0⟩ ∧ (∀ i, i < j → eqAt fold l i s = false) ∧
    ((is = true ∧ m = wordM j s.length ∧ j + s.length ≤ l.length ∧ eqAt fold l j s = true) ∨ (is = false ∧ m = .zero ∧ j = l.length + 1)) := by
  have hm : (l.length + 1) * (s.length + 1) ≤ 61 * 41 := Nat.mul_le_mul (by omega) (by omega)
  rcases from_word fold s l (by omega) l.length (l.length + 2) 0 5000 (by omega) (by omega) (by omega) (by omega) with ⟨left, j, j1, j2, j3, j4, j5⟩ | ⟨left, j4, j5⟩
  · exact ⟨_, left, true, j, j5, fun i hi => j4 i (Nat.zero_le _) hi, .inl ⟨rfl, rfl, j2, j3⟩⟩
  · exact ⟨_, left, false, l.length + 1, j5, fun i hi => j4 i (Nat.zero_le _) (by omega), .inr ⟨rfl, rfl, rfl⟩⟩
/-- The same, however letters are written. -/
theorem from_small (s l : List UInt8) (hs : s.length ≤ 40) (hl : l.length ≤ 60) : ∃ (m : MatchD) (l1 l2 : Int) (is : Bool), fromF (qWord s true) l (l.length + 2) 0 5000 = some ⟨m, l1, is, 0⟩ ∧ fromF (qWord (smallL s) false) (smallL l) ((smallL l).length + 2) 0 5000 = some ⟨m, l2, is, 0⟩ := by
  obtain ⟨m, l1, is, j, h1, h2, h3⟩ := from_text true s l hs hl
  obtain ⟨m2, l2, is2, j2, g1, g2, g3⟩ := from_text false (smallL s) (smallL l) (by rw [small_len]; exact hs) (by rw [small_len]; exact hl)
  rw [small_len] at g1 g3
  rw [small_len] at g3
  have e : ∀ i, eqAt false (smallL l) i (smallL s) = eqAt true l i s := fun i => (eqAt_small l s i).symm
  simp only [e] at g2 g3
  have key : is2 = is ∧ m2 = m := by
    rcases h3 with ⟨rfl, rfl, a1, a2⟩ | ⟨rfl, rfl, rfl⟩
    · rcases g3 with ⟨rfl, rfl, b1, b2⟩ | ⟨rfl, rfl, rfl⟩
      · have : j2 = j := by
          rcases Nat.lt_trichotomy j2 j with h | h | h
          · have := h2 j2 h; rw [b2] at this; cases this
          · exact h
          · have := g2 j h; rw [a2] at this; cases this
        exact ⟨rfl, by rw [this]⟩
      · have := g2 j (by omega)
        rw [a2] at this
        cases this
    · rcases g3 with ⟨rfl, rfl, b1, b2⟩ | ⟨rfl, rfl, rfl⟩
      · have := h2 j2 (by omega)
        rw [b2] at this
        cases this
      · exact ⟨rfl, rfl⟩
  obtain ⟨rfl, rfl⟩ := key
  exact ⟨_, l1, l2, _, h1, by rw [small_len]; exact g1⟩
theorem word_size {s : List UInt8} {o : ByteArray} (h : o.data.toList = wordL s) (hs : s.length ≤ 1000) : o.size ≤ 140737488351232 := by
  have e : o.size = (wordL s).length := by rw [← h]; simp
  have := (escL_len s).2
  rw [e]
  show (escL s).length + 2 ≤ _
  omega
end Go.Proofs.Ytigbfgmgdfnhcaa
