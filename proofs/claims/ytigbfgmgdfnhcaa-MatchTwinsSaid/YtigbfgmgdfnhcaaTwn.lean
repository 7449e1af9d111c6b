/- Plain words: the program of a group that is asked for again. -/
import Derived.Test.YtigbfgmgdfnhcaaDig
import Derived.Test.YtigbfgmgdfnhcaaBaseA42
import Derived.Test.YtigbfgmgdfnhcaaBaseA0
set_option linter.all false
set_option linter.unusedVariables false
set_option linter.unusedSimpArgs false
namespace Go.Proofs.Ytigbfgmgdfnhcaa
open Go.RowKit

def twinL (n : Nat) : List UInt8 := [92, 40, 46, 92, 123] ++ digL n ++ [125, 92, 41, 92, 49]
def qTwin (n : Nat) (fold : Bool) : ProgD := ⟨{ op := 6, x := 2 } :: (List.replicate n { op := 2 } ++ [{ op := 6, x := 3 }, { op := 7, x := 1 }, { op := 14 }]), 0, fold⟩
def twinB (fold : Bool) (n : Nat) : Bool := match compiledF (twinL n) fold with
  | some q => q.code == (qTwin n fold).code && q.rounds == 0 && q.fold == fold
  | none => false
theorem twin_all0 : (List.range 31).all (twinB false) = true := by decide +kernel
theorem twin_all1 : (List.range 31).all (twinB true) = true := by decide +kernel
theorem comp_twin {n : Nat} (hn : n ≤ 30) (fold : Bool) : compiledF (twinL n) fold = some (qTwin n fold) := by
  have h : twinB fold n = true := by
    cases fold
    · exact List.all_eq_true.1 twin_all0 n (List.mem_range.2 (by omega))
    · exact List.all_eq_true.1 twin_all1 n (List.mem_range.2 (by omega))
  unfold twinB at h
  split at h
  · rename_i q hq
    rw [hq]
    simp only [Bool.and_eq_true, beq_iff_eq] at h
    obtain ⟨⟨h1, h2⟩, h3⟩ := h
    obtain ⟨a, b, d⟩ := q
    simp only [] at h1 h2 h3
    subst h1 h2 h3
    rfl
  · cases h
theorem sound_twin {n : Nat} (hn : n ≤ 30) (fold : Bool) : soundB (qTwin n fold) = true := by
  have h : ∀ f, (List.range 31).all (fun n => soundB (qTwin n f)) = true := by intro f; cases f <;> decide +kernel
  exact List.all_eq_true.1 (h fold) n (List.mem_range.2 (by omega))
/-- Any bytes, one behind the other. -/
theorem twin_any (n : Nat) (fold : Bool) (l : List UInt8) (a : Nat) (R : Option ResD) : ∀ (j f st : Nat) (t : TryD), j ≤ n → t.pc = 1 + (n - j) → t.pos + j ≤ l.length →
    runF (qTwin n fold) l a f st (some { t with pc := 1 + n, pos := t.pos + j }) [] = R → runF (qTwin n fold) l a (f + j) (st + j) (some t) [] = R
  | 0, f, st, t, h1, h2, h3, h => by
    rw [← h]
    congr 1
    cases t
    simp only [] at h2 ⊢
    rw [h2]
    simp
  | j + 1, f, st, t, h1, h2, h3, h => by
    rw [show f + (j + 1) = (f + j) + 1 by omega, show st + (j + 1) = (st + j) + 1 by omega, runF]
    have e : (qTwin n fold).code[t.pc]? = some { op := 2 } := by
      rw [h2]
      show ({ op := 6, x := 2 } :: (List.replicate n { op := 2 } ++ [{ op := 6, x := 3 }, { op := 7, x := 1 }, { op := 14 }]) : List InstD)[1 + (n - (j + 1))]? = _
      rw [show 1 + (n - (j + 1)) = (n - (j + 1)) + 1 by omega, List.getElem?_cons_succ, List.getElem?_append_left (by simp; omega), List.getElem?_replicate]
      rw [if_pos (by omega)]
    rw [e]
    simp only [show ¬ ((2 : Int) = 14) by decide, if_false]
    have hs : stepF (qTwin n fold).fold l t { op := 2 } [] = some ({ t with pc := t.pc + 1, pos := t.pos + 1 }, []) := by
      unfold stepF
      simp only []
      rw [if_pos (by decide), if_neg]
      rintro (g | g)
      · omega
      · unfold takesF at g; simp at g
    rw [hs]
    simp only []
    refine twin_any n fold l a R j f st _ (by omega) (by show t.pc + 1 = _; omega) (by show t.pos + 1 + j ≤ _; omega) ?_
    rw [← h]
    simp only [show t.pos + 1 + j = t.pos + (j + 1) by omega]
theorem sameRun_twice (fold : Bool) (s m : List UInt8) : ∀ (k i : Nat), i + k ≤ s.length → sameRun fold (s ++ s ++ m) (s.length + i) i k = true
  | 0, i, _ => rfl
  | k + 1, i, h => by
    unfold sameRun
    have e : bl (s ++ s ++ m) (s.length + i) = bl (s ++ s ++ m) i := by
      unfold bl
      rw [List.append_assoc, List.getElem?_append_right (by omega), Nat.add_sub_cancel_left, List.getElem?_append_left (by omega), List.getElem?_append_left (by omega)]
    rw [e, show s.length + i + 1 = s.length + (i + 1) by omega, sameRun_twice fold s m k (i + 1) (by omega), Bool.and_true]
    unfold sameB
    simp
def twinT (n : Nat) : TryD := { firstT 0 0 with pc := n + 3, pos := n + n, slots := ((firstT 0 0).slots.set 2 0).set 3 (n : Int) }
theorem run_twin (s m : List UInt8) (fold : Bool) (hn : s.length ≤ 30) (f st : Nat) :
    runF (qTwin s.length fold) (s ++ s ++ m) 0 (f + 4 + s.length + 2) (st + 3 + s.length + 1) none [firstT 0 0] = some ⟨matchF (twinT s.length) 0, (st : Nat), true, 0⟩ := by
  have hl : (s ++ s ++ m).length = s.length + s.length + m.length := by simp; omega
  rw [show f + 4 + s.length + 2 = (f + 4 + s.length + 1) + 1 from rfl, runF]
  simp only [List.getLast?_singleton, List.dropLast_singleton]
  rw [show f + 4 + s.length + 1 = (f + 4 + s.length) + 1 from rfl, runF]
  have e0 : (qTwin s.length fold).code[(firstT 0 0).pc]? = some { op := 6, x := 2 } := rfl
  rw [e0, show st + 3 + s.length + 1 = (st + 3 + s.length) + 1 from rfl]
  simp only [show ¬ ((6 : Int) = 14) by decide, if_false]
  have s0 : stepF (qTwin s.length fold).fold (s ++ s ++ m) (firstT 0 0) { op := 6, x := 2 } [] = some ({ firstT 0 0 with pc := 1, slots := (firstT 0 0).slots.set 2 0 }, []) := rfl
  rw [s0]
  simp only []
  refine twin_any s.length fold (s ++ s ++ m) 0 _ s.length (f + 4) (st + 3) _ (Nat.le_refl _) (by show 1 = _; omega) (by show 0 + s.length ≤ _; rw [hl]; omega) ?_
  have c1 : (qTwin s.length fold).code[1 + s.length]? = some { op := 6, x := 3 } := by
    show ({ op := 6, x := 2 } :: (List.replicate s.length { op := 2 } ++ [{ op := 6, x := 3 }, { op := 7, x := 1 }, { op := 14 }]) : List InstD)[1 + s.length]? = _
    rw [show 1 + s.length = s.length + 1 by omega, List.getElem?_cons_succ, List.getElem?_append_right (by simp)]
    simp
  have c2 : (qTwin s.length fold).code[s.length + 2]? = some { op := 7, x := 1 } := by
    show ({ op := 6, x := 2 } :: (List.replicate s.length { op := 2 } ++ [{ op := 6, x := 3 }, { op := 7, x := 1 }, { op := 14 }]) : List InstD)[s.length + 2]? = _
    rw [show s.length + 2 = (s.length + 1) + 1 by omega, List.getElem?_cons_succ, List.getElem?_append_right (by simp)]
    simp
  have c3 : (qTwin s.length fold).code[s.length + 3]? = some { op := 14 } := by
    show ({ op := 6, x := 2 } :: (List.replicate s.length { op := 2 } ++ [{ op := 6, x := 3 }, { op := 7, x := 1 }, { op := 14 }]) : List InstD)[s.length + 3]? = _
    rw [show s.length + 3 = (s.length + 2) + 1 by omega, List.getElem?_cons_succ, List.getElem?_append_right (by simp)]
    simp
  rw [show f + 4 = (f + 3) + 1 from rfl, runF]
  simp only [c1]
  simp only [show ¬ ((6 : Int) = 14) by decide, if_false]
  have s1 : stepF (qTwin s.length fold).fold (s ++ s ++ m) { firstT 0 0 with pc := 1 + s.length, pos := 0 + s.length, slots := (firstT 0 0).slots.set 2 0 } { op := 6, x := 3 } [] = some ({ firstT 0 0 with pc := 1 + s.length + 1, pos := 0 + s.length, slots := ((firstT 0 0).slots.set 2 0).set 3 ((0 + s.length : Nat) : Int) }, []) := rfl
  have s1' : stepF (qTwin s.length fold).fold (s ++ s ++ m) { pc := 1 + s.length, pos := (firstT 0 0).pos + s.length, slots := (firstT 0 0).slots.set 2 0, rounds := (firstT 0 0).rounds } { op := 6, x := 3 } [] = some ({ firstT 0 0 with pc := s.length + 2, pos := s.length, slots := ((firstT 0 0).slots.set 2 0).set 3 (s.length : Int) }, []) := by
    refine (show _ = _ from s1).trans ?_
    simp only [Nat.zero_add, show 1 + s.length + 1 = s.length + 2 by omega]
  rw [s1']
  simp only []
  rw [show f + 3 = (f + 2) + 1 from rfl, runF]
  simp only [c2]
  simp only [show ¬ ((7 : Int) = 14) by decide, if_false]
  have hb : ∀ k, backF fold (s ++ s ++ m) { firstT 0 0 with pc := k, pos := s.length, slots := ((firstT 0 0).slots.set 2 0).set 3 (s.length : Int) } 1 = some (s.length + s.length) := by
    intro k
    unfold backF
    have g2 : (((firstT 0 0).slots.set 2 0).set 3 (s.length : Int)).getD (2 * 1) 0 = 0 := rfl
    have g3 : (((firstT 0 0).slots.set 2 0).set 3 (s.length : Int)).getD (2 * 1 + 1) 0 = (s.length : Int) := rfl
    simp only [g2, g3, hl]
    rw [if_neg (by omega), if_neg (by omega)]
    have hr := sameRun_twice fold s m s.length 0 (by omega)
    rw [Nat.add_zero] at hr
    rw [show ((s.length : Int) - 0).toNat = s.length by omega, show (0 : Int).toNat = 0 from rfl, hr]
    simp
  have s2 : stepF (qTwin s.length fold).fold (s ++ s ++ m) { firstT 0 0 with pc := s.length + 2, pos := s.length, slots := ((firstT 0 0).slots.set 2 0).set 3 (s.length : Int) } { op := 7, x := 1 } [] = some (twinT s.length, []) := by
    have hb2 := hb (s.length + 2 + 1)
    unfold stepF
    simp only []
    rw [if_neg (by decide), if_neg (by decide), if_neg (by decide), if_neg (by decide), if_pos (by decide), show (1 : Int).toNat = 1 from rfl]
    rw [show (qTwin s.length fold).fold = fold from rfl, hb2]
    rfl
  rw [s2]
  simp only []
  rw [show f + 2 = (f + 1) + 1 from rfl, runF]
  have c3' : (qTwin s.length fold).code[(twinT s.length).pc]? = some { op := 14 } := c3
  rw [c3']
  rfl
theorem at_twin (s m : List UInt8) (fold : Bool) (hn : s.length ≤ 30) : ∃ lf, atF (qTwin s.length fold) (s ++ s ++ m) 0 5000 = some ⟨matchF (twinT s.length) 0, lf, true, 0⟩ := by
  obtain ⟨d, hd⟩ : ∃ d, 5000 = d + 3 + s.length + 1 := ⟨5000 - (s.length + 4), by omega⟩
  refine ⟨(d : Nat), ?_⟩
  unfold atF
  rw [if_neg (by rintro (g | g | g | g | g) <;> first | exact absurd ((sound_twin hn fold).symm.trans g) (by decide) | omega)]
  have h := run_twin s m fold hn (3 * 5000 + 4 - (s.length + 6)) d
  rw [show (3 * 5000 + 4 - (s.length + 6)) + 4 + s.length + 2 = 3 * 5000 + 4 by omega, ← hd] at h
  exact h
theorem twinM (n : Nat) : (matchF (twinT n) 0).to_ = ((n + n : Nat) : Int) ∧ (matchF (twinT n) 0).beg.getD 1 0 = 0 ∧ (matchF (twinT n) 0).end_.getD 1 0 = (n : Int) := by
  have e1 : fromG (twinT n) 0 = 0 := rfl
  have e2 : toG (twinT n) = ((n + n : Nat) : Int) := rfl
  have e3 : goodG (twinT n) 1 = true := by
    show (decide ((0 : Int) ≤ 0) && decide ((0 : Int) ≤ (n : Int))) = true
    simp
  rw [matchF_eq, e1, e2]
  refine ⟨by show max (0 : Int) _ = _; omega, ?_, ?_⟩
  · rw [show (1 : Nat) = 0 + 1 from rfl, grp_at _ _ 0 (by decide)]
    unfold begG
    rw [show 0 + 1 = 1 from rfl, e3]
    rfl
  · rw [show (1 : Nat) = 0 + 1 from rfl, grp_at _ _ 0 (by decide)]
    unfold endG
    rw [show 0 + 1 = 1 from rfl, e3]
    rfl
end Go.Proofs.Ytigbfgmgdfnhcaa
