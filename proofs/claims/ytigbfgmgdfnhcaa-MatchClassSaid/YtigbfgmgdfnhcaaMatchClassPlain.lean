/- Plain words: programs of one class. -/
import Derived.Test.YtigbfgmgdfnhcaaMatchEdgesPlain
import Derived.Test.YtigbfgmgdfnhcaaMatchClassSets
import Derived.Laws.IdiomStrings
import Derived.Test.YtigbfgmgdfnhcaaBaseA0
set_option linter.all false
set_option linter.unusedVariables false
set_option linter.unusedSimpArgs false
namespace Go.Proofs.Ytigbfgmgdfnhcaa
open Go.RowKit

section
variable {P : Program} {ops : Array Oper} {rest : List Oper} {op : Oper} {a : Act} {w : World} {Q : Exit → Act → World → Prop}
theorem stopCv (s d : TypeId) (x : Operand) (ho : op.op = .convert s d x) (h : Stop (wpList P ops Q (op :: rest) a w)) : wpList P ops Q (op :: rest) a w := h
theorem wpList_conv {s d : TypeId} {x : Operand} {v u : Value} (hgd : op.guard = none) (ho : op.op = .convert s d x) (hv : a.eval x = v) (h : (convert s d v).run P w = .ok u w) (hk : wpList P ops Q rest (a.put op.dst u) w) : wpList P ops Q (op :: rest) a w := by
  refine wpList_plain hgd fun K hK => ?_
  unfold Oper.wp execOp
  simp only [ho, hv, Sem.run_bind, h, Result.andThen_ok, Sem.run_pure]
  exact hK _ _ hk
theorem conv_byte (w : World) (b : Nat) (c : Nat) (hc : c < 256) (h : w.heap[b]? = some (.cells #[.int .u8 (c : Int)] 5 (0, 0))) : (convert 43 9 (.slice (some ⟨b, 0, none⟩) 1 1)).run Try.prog w = .ok (.string ⟨#[UInt8.ofNat c]⟩) w := by
  refine run_convert_bytes_back w 43 9 5 ⟨b, 0, none⟩ 1 [UInt8.ofNat c] Try.underlying43 Try.underlying5 Try.underlying9 (fun j hj => ?_)
  have hj0 : j = 0 := by simp at hj; omega
  subst hj0
  rw [Addr.add_mid, Nat.zero_add]
  have h1 := cell_of h 0 (v := .int .u8 (c : Int)) rfl
  rw [h1]
  simp
  omega
end
def qCls (c : Int) : ProgD := ⟨[{ op := 3, set := setJ (isB c) }, { op := 14 }], 0, false⟩
def clsB (c : Nat) : Bool := !knownB (smallI (c : Int)) || match compiledF [92, UInt8.ofNat c] false with
  | some q => q.code == (qCls c).code && q.rounds == 0 && q.fold == false
  | none => false
theorem cls_all : (List.range 256).all clsB = true := by decide +kernel
theorem comp_cls {c : Nat} (hc : c < 256) (hk : knownB (smallI (c : Int)) = true) : compiledF [92, UInt8.ofNat c] false = some (qCls c) := by
  have h := List.all_eq_true.1 cls_all c (List.mem_range.2 hc)
  unfold clsB at h
  rw [hk, Bool.not_true, Bool.false_or] at h
  split at h
  · rename_i q hq
    rw [hq]
    simp only [Bool.and_eq_true, beq_iff_eq] at h
    obtain ⟨⟨h1, h2⟩, h3⟩ := h
    obtain ⟨a, b, d⟩ := q
    simp only [] at h1 h2 h3
    subst h1 h2 h3
    rfl
  · cases h
theorem sound_cls (c : Int) : soundB (qCls c) = true := by
  unfold soundB qCls
  simp [fineB]
theorem step_cls (c : Int) (l : List UInt8) (t : TryD) (ts : List TryD) (hp : t.pos ≤ l.length) : stepF false l t { op := 3, set := setJ (isB c) } ts = if t.pos < l.length ∧ isB c (bl l t.pos) = true then some ({ t with pc := t.pc + 1, pos := t.pos + 1 }, ts) else none := by
  unfold stepF
  simp only []
  rw [if_pos (by decide)]
  have ht : takesF false { op := 3, set := setJ (isB c) } (bl l t.pos) = isB c (bl l t.pos) := by
    unfold takesF
    simp only [show ¬ ((3 : Int) = 1) by decide, if_false, if_true, Bool.false_and, Bool.or_false]
    have hb := bl_rng l t.pos
    have h := has_acc (isB c) (bl l t.pos).toNat (by omega)
    rw [Int.toNat_of_nonneg hb.1] at h
    exact h
  rw [ht]
  by_cases h1 : t.pos < l.length
  · cases h2 : isB c (bl l t.pos)
    · rw [if_pos (.inr rfl), if_neg (by simp)]
    · rw [if_neg (by rintro (h | h); omega; cases h), if_pos ⟨h1, rfl⟩]
  · rw [if_pos (.inl (by omega)), if_neg (fun h => h1 h.1)]
def clsM (k : Nat) : MatchD := matchF { firstT k 0 with pc := 1, pos := k + 1 } k
theorem clsM_len (k : Nat) : (clsM k).beg.length = 10 ∧ (clsM k).end_.length = 10 := by
  unfold clsM; rw [← partM_nine]; exact ⟨partM_blen _ _ _, partM_elen _ _ _⟩
theorem clsM_ends (k : Nat) : (clsM k).from_ = k ∧ (clsM k).to_ = ((k + 1 : Nat) : Int) := by
  have e1 : fromG { firstT k 0 with pc := 1, pos := k + 1 } k = k := rfl
  have e2 : toG { firstT k 0 with pc := 1, pos := k + 1 } = ((k + 1 : Nat) : Int) := rfl
  unfold clsM
  rw [matchF_eq, e1, e2]
  exact ⟨rfl, by show max (k : Int) ((k + 1 : Nat) : Int) = _; omega⟩
theorem run_cls (c : Int) (l : List UInt8) (k f st : Nat) (hk : k ≤ l.length) :
    runF (qCls c) l k (f + 4) (st + 2) none [firstT k 0] = if k < l.length ∧ isB c (bl l k) = true then some ⟨clsM k, st, true, 0⟩ else some ⟨.zero, ((st + 1 : Nat) : Int), false, 0⟩ := by
  have hs := step_cls c l (firstT k 0) [] hk
  have hp : (firstT k 0).pos = k := rfl
  rw [hp] at hs
  have e0 : (qCls c).code[(firstT k 0).pc]? = some { op := 3, set := setJ (isB c) } := rfl
  rw [show f + 4 = (f + 3) + 1 from rfl, runF]
  simp only [List.getLast?_singleton, List.dropLast_singleton]
  rw [show f + 3 = (f + 2) + 1 from rfl, runF, e0]
  simp only [show ¬ ((3 : Int) = 14) by decide, if_false]
  rw [show (qCls c).fold = false from rfl, hs]
  by_cases hb : k < l.length ∧ isB c (bl l k) = true
  · rw [if_pos hb, if_pos hb]
    simp only []
    have e1 : (qCls c).code[({ firstT k 0 with pc := (firstT k 0).pc + 1, pos := k + 1 } : TryD).pc]? = some { op := 14 } := rfl
    rw [show f + 2 = (f + 1) + 1 from rfl, runF, e1]
    rfl
  · rw [if_neg hb, if_neg hb]
    simp only []
    rw [show f + 2 = (f + 1) + 1 from rfl, runF]
    rfl
theorem at_cls (c : Int) (l : List UInt8) (k st : Nat) (hk : k ≤ l.length) (hs2 : 2 ≤ st) (hs : st ≤ 5000) :
    atF (qCls c) l k st = if k < l.length ∧ isB c (bl l k) = true then some ⟨clsM k, ((st - 2 : Nat) : Int), true, 0⟩ else some ⟨.zero, ((st - 1 : Nat) : Int), false, 0⟩ := by
  unfold atF
  rw [if_neg (by rintro (g | g | g | g | g) <;> first | exact absurd ((sound_cls c).symm.trans g) (by decide) | omega)]
  obtain ⟨s, rfl⟩ : ∃ s, st = s + 2 := ⟨st - 2, by omega⟩
  rw [Int.toNat_natCast, Int.toNat_natCast]
  have h := run_cls c l k (3 * (s + 2)) s hk
  rw [show (qCls c).rounds = 0 from rfl]
  exact h
/-- The first byte of a class. -/
def firstC (c : Int) (l : List UInt8) : Nat → Nat → Nat
  | 0, k => k
  | n + 1, k => if k < l.length ∧ isB c (bl l k) = false then firstC c l n (k + 1) else k
theorem from_cls (c : Int) (l : List UInt8) : ∀ (f k st : Nat), k ≤ l.length → l.length - k + 1 ≤ f → l.length - k + 2 ≤ st → st ≤ 5000 →
    ∃ s j, k ≤ j ∧ j ≤ l.length ∧ (∀ i, k ≤ i → i < j → isB c (bl l i) = false) ∧ ((j < l.length ∧ isB c (bl l j) = true ∧ fromF (qCls c) l f k st = some ⟨clsM j, s, true, 0⟩) ∨ (j = l.length ∧ fromF (qCls c) l f k st = some ⟨.zero, s, false, 0⟩))
  | 0, k, st, h1, h2, h3, h4 => by omega
  | f + 1, k, st, h1, h2, h3, h4 => by
    unfold fromF
    rw [at_cls c l k st h1 (by omega) h4]
    by_cases hk : k < l.length ∧ isB c (bl l k) = true
    · rw [if_pos hk]
      exact ⟨((st - 2 : Nat) : Int), k, Nat.le_refl _, h1, fun i i1 i2 => by omega, .inl ⟨hk.1, hk.2, by simp⟩⟩
    · rw [if_neg hk]
      by_cases he : k = l.length
      · subst he
        exact ⟨((st - 1 : Nat) : Int), l.length, Nat.le_refl _, Nat.le_refl _, fun i i1 i2 => by omega, .inr ⟨rfl, by simp⟩⟩
      · simp only [ne_eq, not_true_eq_false, Bool.false_eq_true, false_or]
        rw [if_neg (by omega)]
        obtain ⟨s, j, j1, j2, j3, j4⟩ := from_cls c l f (k + 1) (st - 1) (by omega) (by omega) (by omega) (by omega)
        have hkf : isB c (bl l k) = false := by
          cases hq : isB c (bl l k)
          · rfl
          · exact absurd ⟨by omega, hq⟩ hk
        refine ⟨s, j, by omega, j2, fun i i1 i2 => ?_, ?_⟩
        · by_cases hi : i = k
          · rw [hi]; exact hkf
          · exact j3 i (by omega) i2
        · rcases j4 with ⟨g1, g2, g3⟩ | ⟨g1, g3⟩
          · exact .inl ⟨g1, g2, by rw [← g3]; rfl⟩
          · exact .inr ⟨g1, by rw [← g3]; rfl⟩
end Go.Proofs.Ytigbfgmgdfnhcaa
