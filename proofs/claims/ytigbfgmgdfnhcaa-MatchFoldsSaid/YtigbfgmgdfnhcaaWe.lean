/- Plain words: the program of a text as a pattern, and where it fits. -/
import Derived.Test.YtigbfgmgdfnhcaaWd
import Derived.Test.YtigbfgmgdfnhcaaBaseA0
set_option linter.all false
set_option linter.unusedVariables false
set_option linter.unusedSimpArgs false
namespace Go.Proofs.Ytigbfgmgdfnhcaa
open Go.RowKit

theorem fine_byte (p : PatD) (c : UInt8) : fineN p (byteN c) = true := by
  unfold fineN kidsB byteN
  simp
theorem sound_kids (p : PatD) (f : Nat) (hb : ∀ k, k < p.nodes.length - 1 → ∃ c, p.nodes.getD k .zero = byteN c) : ∀ (n a : Nat) (st : List Bool), a + n ≤ p.nodes.length - 1 → st.length = p.nodes.length → (∀ j, a ≤ j → j < a + n → st.getD j true = false) →
    ∃ st2, soundL (soundF p (f + 1)) (List.range' a n) st = some (true, st2)
  | 0, a, st, _, _, _ => ⟨st, by simp [soundL]⟩
  | n + 1, a, st, h1, h2, h3 => by
    rw [List.range'_succ]
    unfold soundL
    have hs : soundF p (f + 1) a st = some (true, st.set a true) := by
      obtain ⟨c, hc⟩ := hb a (by omega)
      unfold soundF
      rw [if_neg (by rw [h3 a (Nat.le_refl _) (by omega)]; simp; omega), hc, fine_byte]
      rw [if_neg (by simp)]
      simp [byteN, soundL]
    rw [hs]
    simp only []
    refine sound_kids p f hb n (a + 1) (st.set a true) (by omega) (by simpa using h2) (fun j j1 j2 => ?_)
    rw [List.getD_eq_getElem?_getD, List.getElem?_set_ne (by omega), ← List.getD_eq_getElem?_getD]
    exact h3 j (by omega) (by omega)
theorem nodes_word (a b : UInt8) (s : List UInt8) (k : Nat) (hk : k < s.length + 2) : (patW (a :: b :: s)).nodes.getD k .zero = byteN ((a :: b :: s).getD k 0) := by
  show ((a :: b :: s).map byteN ++ [({ op := 5, kids := List.range' 0 (s.length + 2) } : NodeD)]).getD k .zero = _
  rw [List.getD_eq_getElem?_getD, List.getElem?_append_left (by simp; omega), List.getElem?_map, List.getD_eq_getElem?_getD, List.getElem?_eq_getElem (by simp; omega)]
  rfl
theorem top_word (a b : UInt8) (s : List UInt8) : (patW (a :: b :: s)).nodes.getD (s.length + 2) .zero = { op := 5, kids := List.range' 0 (s.length + 2) } := by
  show ((a :: b :: s).map byteN ++ [({ op := 5, kids := List.range' 0 (s.length + 2) } : NodeD)]).getD (s.length + 2) .zero = _
  rw [List.getD_eq_getElem?_getD, List.getElem?_append_right (by simp)]
  simp
theorem len_word (a b : UInt8) (s : List UInt8) : (patW (a :: b :: s)).nodes.length = s.length + 3 := by simp [patW]
theorem sound_word (s : List UInt8) : soundP (patW s) = some true := by
  match s with
  | [] => rfl
  | [c] =>
    unfold soundP
    rw [if_neg (by simp [patW])]
    show (match soundF ⟨[byteN c], 0, 0, 0⟩ 2 0 [false] with | none => none | some (b, _) => some b) = _
    unfold soundF
    simp only [List.length_cons, List.length_nil, List.getD_cons_zero]
    rw [if_neg (by simp), fine_byte]
    simp [byteN, soundL]
  | a :: b :: s =>
    unfold soundP
    rw [if_neg (by simp [patW])]
    rw [len_word]
    unfold soundF
    have hr : (patW (a :: b :: s)).root = s.length + 2 := rfl
    rw [hr, len_word, if_neg (by simp), top_word]
    have hf : fineN (patW (a :: b :: s)) { op := 5, kids := List.range' 0 (s.length + 2) } = true := by
      unfold fineN kidsB
      simp
    rw [hf, if_neg (by simp)]
    obtain ⟨st2, h⟩ := sound_kids (patW (a :: b :: s)) (s.length + 2) (fun k hk => ⟨_, nodes_word a b s k (by rw [len_word] at hk; omega)⟩) (s.length + 2) 0 ((List.replicate (s.length + 3) false).set (s.length + 2) true) (by rw [len_word]; omega) (by rw [len_word]; simp) (fun j j1 j2 => by
      rw [List.getD_eq_getElem?_getD, List.getElem?_set_ne (by omega), List.getElem?_replicate, if_pos (by omega)]; rfl)
    rw [show s.length + 3 = s.length + 2 + 1 from rfl, h]
    simp
theorem lay_byte (ns : List NodeD) (f k : Nat) (c : UInt8) (w : WrD) (h : ns.getD k .zero = byteN c) (hl : w.long = false) (hc : w.code.length ≤ 2000) : nodeF ns (f + 1) k w = some { w with code := w.code ++ [byteI c] } := by
  unfold nodeF
  rw [h]
  unfold WrD.node WrD.lay
  rw [hl, if_neg (by simp)]
  simp only [byteN, if_true]
  rw [if_neg (by omega)]
  rfl
theorem cat_word (ns : List NodeD) (f : Nat) (s : List UInt8) : ∀ (n a : Nat) (w : WrD), (∀ k, a ≤ k → k < a + n → ns.getD k .zero = byteN (s.getD k 0)) → w.long = false → w.code.length + n ≤ 2000 →
    catL (nodeF ns (f + 1)) (List.range' a n) w = some { w with code := w.code ++ (List.range' a n).map (fun k => byteI (s.getD k 0)) }
  | 0, a, w, _, _, _ => by simp [catL]
  | n + 1, a, w, h, hl, hc => by
    rw [List.range'_succ]
    unfold catL
    rw [lay_byte ns f a _ w (h a (Nat.le_refl _) (by omega)) hl (by omega)]
    simp only []
    have g := cat_word ns f s n (a + 1) { w with code := w.code ++ [byteI (s.getD a 0)] } (fun k k1 k2 => h k (by omega) (by omega)) hl (by simp; omega)
    simp only [] at g
    rw [g]
    simp
theorem map_range (s : List UInt8) : (List.range' 0 s.length).map (fun k => byteI (s.getD k 0)) = s.map byteI := by
  apply List.ext_getElem?
  intro i
  rw [List.getElem?_map, List.getElem?_map]
  by_cases h : i < s.length
  · rw [List.getElem?_range' h, List.getElem?_eq_getElem h]
    simp [List.getElem?_eq_getElem h]
  · rw [List.getElem?_eq_none (by simp; omega), List.getElem?_eq_none (by omega)]
    rfl
theorem node_word (s : List UInt8) (hs : s.length ≤ 100) : nodeF (patW s).nodes ((patW s).nodes.length + 1) (patW s).root ⟨[], 0, false⟩ = some ⟨s.map byteI, 0, false⟩ := by
  match s, hs with
  | [], _ => rfl
  | [c], _ => rw [lay_byte _ _ _ c _ rfl rfl (by simp)]; rfl
  | a :: b :: s, hs =>
    simp only [List.length_cons] at hs
    rw [len_word]
    unfold nodeF
    rw [show (patW (a :: b :: s)).root = s.length + 2 from rfl, top_word]
    unfold WrD.node
    simp only [Bool.false_eq_true, if_false]
    rw [if_neg (by decide), if_neg (by decide), if_neg (by decide), if_pos trivial]
    rw [show s.length + 3 = s.length + 2 + 1 from rfl]
    rw [cat_word _ _ (a :: b :: s) (s.length + 2) 0 _ (fun k k1 k2 => nodes_word a b s k (by omega)) rfl (by simp; omega)]
    rw [show s.length + 2 = (a :: b :: s).length from rfl, map_range]
    rfl
theorem comp_word (s : List UInt8) (hs : s.length ≤ 100) (fold : Bool) : compiledF (wordL s) fold = some (qWord s fold) := by
  unfold compiledF
  rw [parse_word s hs]
  simp only [ne_eq, not_true_eq_false, if_false]
  unfold compileF
  rw [sound_word, node_word s hs]
  simp only []
  have hl : (WrD.lay ⟨s.map byteI, 0, false⟩ { op := 14 }).2 = ⟨s.map byteI ++ [{ op := 14 }], 0, false⟩ := by
    unfold WrD.lay
    rw [if_neg (by simp; omega)]
  rw [hl, if_neg (by simp; omega)]
  have hc : (patW s).case = 0 := by unfold patW; split <;> rfl
  rw [hc]
  rfl
theorem sound_prog (s : List UInt8) (hs : s.length ≤ 100) (fold : Bool) : soundB (qWord s fold) = true := by
  unfold soundB qWord
  simp only [List.length_append, List.length_map, List.length_cons, List.length_nil, Bool.and_eq_true, Bool.or_eq_true, decide_eq_true_eq, List.all_append, List.all_map]
  refine ⟨⟨⟨⟨⟨by omega, by omega⟩, by omega⟩, by omega⟩, ?_, ?_⟩, .inl (by simp)⟩
  · apply List.all_eq_true.2
    intro c _
    simp [fineB, byteI]
  · rfl

/-- Do a text's bytes stand at a place? -/
def eqAt (fold : Bool) (l : List UInt8) : Nat → List UInt8 → Bool
  | _, [] => true
  | p, c :: s => decide (p < l.length) && sameB (bl l p) (c.toNat : Int) fold && eqAt fold l (p + 1) s
theorem eqAt_len (fold : Bool) (l : List UInt8) : ∀ (s : List UInt8) (p : Nat), p ≤ l.length → eqAt fold l p s = true → p + s.length ≤ l.length
  | [], p, h, _ => by simpa using h
  | c :: s, p, h, e => by
    unfold eqAt at e
    simp only [Bool.and_eq_true, decide_eq_true_eq] at e
    have := eqAt_len fold l s (p + 1) (by omega) e.2
    simp
    omega
def wordT (k n : Nat) : TryD := { firstT k 0 with pc := n, pos := k + n }
def wordM (k n : Nat) : MatchD := matchF (wordT k n) k
theorem wordM_len (k n : Nat) : (wordM k n).beg.length = 10 ∧ (wordM k n).end_.length = 10 := by
  unfold wordM; rw [← partM_nine]; exact ⟨partM_blen _ _ _, partM_elen _ _ _⟩
theorem wordM_ends (k n : Nat) : (wordM k n).from_ = k ∧ (wordM k n).to_ = ((k + n : Nat) : Int) := by
  have e1 : fromG (wordT k n) k = k := rfl
  have e2 : toG (wordT k n) = ((k + n : Nat) : Int) := rfl
  unfold wordM
  rw [matchF_eq, e1, e2]
  exact ⟨rfl, by show max (k : Int) ((k + n : Nat) : Int) = _; omega⟩
theorem code_word (s0 s : List UInt8) (c : UInt8) (fold : Bool) : (qWord (s0 ++ c :: s) fold).code[s0.length]? = some (byteI c) := by
  show ((s0 ++ c :: s).map byteI ++ [{ op := 14 }])[s0.length]? = _
  rw [List.getElem?_append_left (by simp), List.getElem?_map, List.getElem?_append_right (Nat.le_refl _)]
  simp
theorem code_end (s : List UInt8) (fold : Bool) : (qWord s fold).code[s.length]? = some { op := 14 } := by
  show (s.map byteI ++ [{ op := 14 }])[s.length]? = _
  rw [List.getElem?_append_right (by simp)]
  simp
theorem run_word (fold : Bool) (l : List UInt8) (a n : Nat) (q : ProgD) (hf : q.fold = fold) (sl rs : List Int) : ∀ (s : List UInt8) (i p f st : Nat), (∀ j c, s[j]? = some c → q.code[i + j]? = some (byteI c)) → q.code[i + s.length]? = some { op := 14 } → i + s.length = n → p ≤ l.length →
    ∃ left, st ≤ left ∧ left ≤ st + s.length + 1 ∧ runF q l a (f + s.length + 2) (st + s.length + 1) (some ⟨i, p, sl, rs⟩) [] = if eqAt fold l p s = true then some ⟨matchF ⟨n, p + s.length, sl, rs⟩ a, (left : Nat), true, 0⟩ else some ⟨.zero, (left : Nat), false, 0⟩
  | [], i, p, f, st, hc, he, hn, hp => by
    refine ⟨st, Nat.le_refl _, by omega, ?_⟩
    simp only [List.length_nil, Nat.add_zero] at he hn ⊢
    rw [show f + 2 = (f + 1) + 1 from rfl, runF, he]
    subst hn
    simp [eqAt]
  | c :: s, i, p, f, st, hc, he, hn, hp => by
    have h0 : q.code[i]? = some (byteI c) := by have := hc 0 c rfl; rwa [Nat.add_zero] at this
    have hs : stepF q.fold l ⟨i, p, sl, rs⟩ (byteI c) [] = if (decide (p < l.length) && sameB (bl l p) (c.toNat : Int) fold) = true then some (⟨i + 1, p + 1, sl, rs⟩, []) else none := by
      unfold stepF
      simp only []
      rw [if_pos (.inl rfl)]
      have ht : takesF q.fold (byteI c) (bl l p) = sameB (bl l p) (c.toNat : Int) fold := by
        unfold takesF
        rw [hf]
        rfl
      rw [ht]
      by_cases h1 : p < l.length
      · cases h2 : sameB (bl l p) (c.toNat : Int) fold
        · rw [if_pos (.inr rfl), if_neg (by simp)]
        · rw [if_neg (by rintro (h | h); omega; cases h), if_pos (by simp [h1])]
      · rw [if_pos (.inl (by omega)), if_neg (by simp [h1])]
    simp only [List.length_cons]
    rw [show f + (s.length + 1) + 2 = (f + s.length + 2) + 1 by omega, show st + (s.length + 1) + 1 = (st + s.length + 1) + 1 by omega, runF, h0]
    simp only [show ¬ ((byteI c).op = 14) from by show ¬ ((1 : Int) = 14); decide, if_false]
    rw [hs]
    by_cases hb : (decide (p < l.length) && sameB (bl l p) (c.toNat : Int) fold) = true
    · rw [if_pos hb]
      simp only []
      have hb2 := hb
      simp only [Bool.and_eq_true, decide_eq_true_eq] at hb2
      obtain ⟨left, g1, g2, g3⟩ := run_word fold l a n q hf sl rs s (i + 1) (p + 1) f st (fun j d hj => by have := hc (j + 1) d (by simpa using hj); rwa [show i + (j + 1) = i + 1 + j by omega] at this) (by rw [show i + 1 + s.length = i + (c :: s).length by simp; omega]; exact he) (by rw [← hn]; simp; omega) (by omega)
      refine ⟨left, g1, by omega, ?_⟩
      rw [g3]
      have e : eqAt fold l p (c :: s) = eqAt fold l (p + 1) s := by
        rw [eqAt, hb, Bool.true_and]
      rw [e, show p + 1 + s.length = p + (s.length + 1) by omega]
    · rw [if_neg hb]
      simp only []
      refine ⟨st + s.length + 1, by omega, by omega, ?_⟩
      have e : eqAt fold l p (c :: s) = false := by
        rw [eqAt, Bool.eq_false_iff.2 hb, Bool.false_and]
      rw [e, show f + s.length + 2 = (f + s.length + 1) + 1 from rfl, runF]
      rfl
theorem at_word (fold : Bool) (s l : List UInt8) (hs : s.length ≤ 100) (k st : Nat) (hk : k ≤ l.length) (h1 : s.length + 1 ≤ st) (h2 : st ≤ 5000) :
    ∃ left : Nat, st ≤ left + s.length + 1 ∧ left ≤ st ∧ atF (qWord s fold) l k st = if eqAt fold l k s = true then some ⟨wordM k s.length, (left : Nat), true, 0⟩ else some ⟨.zero, (left : Nat), false, 0⟩ := by
  obtain ⟨d, rfl⟩ : ∃ d, st = d + s.length + 1 := ⟨st - (s.length + 1), by omega⟩
  obtain ⟨left, g1, g2, g3⟩ := run_word fold l k s.length (qWord s fold) rfl (firstT k 0).slots (firstT k 0).rounds s 0 k (3 * (d + s.length + 1) + 1 - s.length) d (fun j c hj => by
    obtain ⟨hj1, hj2⟩ := List.getElem?_eq_some_iff.1 hj
    show (s.map byteI ++ [{ op := 14 }])[0 + j]? = _
    rw [Nat.zero_add, List.getElem?_append_left (by simpa using hj1), List.getElem?_map, hj]
    rfl) (by rw [Nat.zero_add]; exact code_end s fold) (by omega) hk
  refine ⟨left, by omega, g2, ?_⟩
  unfold atF
  rw [if_neg (by rintro (g | g | g | g | g) <;> first | exact absurd ((sound_prog s hs fold).symm.trans g) (by decide) | omega)]
  rw [Int.toNat_natCast, Int.toNat_natCast]
  rw [show 3 * (d + s.length + 1) + 4 = (3 * (d + s.length + 1) + 1 - s.length + s.length + 2) + 1 by omega, runF]
  simp only [List.getLast?_singleton, List.dropLast_singleton]
  exact g3
theorem from_word (fold : Bool) (s l : List UInt8) (hs : s.length ≤ 100) : ∀ (d f k st : Nat), k + d = l.length → d + 1 ≤ f → (d + 1) * (s.length + 1) ≤ st → st ≤ 5000 →
    (∃ (left : Int) (j : Nat), k ≤ j ∧ j + s.length ≤ l.length ∧ eqAt fold l j s = true ∧ (∀ i, k ≤ i → i < j → eqAt fold l i s = false) ∧ fromF (qWord s fold) l f k st = some ⟨wordM j s.length, left, true, 0⟩) ∨
    (∃ left : Int, (∀ i, k ≤ i → i ≤ l.length → eqAt fold l i s = false) ∧ fromF (qWord s fold) l f k st = some ⟨.zero, left, false, 0⟩)
  | d, 0, k, st, h1, h2, h3, h4 => by omega
  | d, f + 1, k, st, h1, h2, h3, h4 => by
    have hm : (d + 1) * (s.length + 1) = d * (s.length + 1) + (s.length + 1) := Nat.succ_mul _ _
    obtain ⟨left, g1, g2, g3⟩ := at_word fold s l hs k st (by omega) (by omega) h4
    unfold fromF
    rw [g3]
    cases he : eqAt fold l k s
    · rw [if_neg (by simp)]
      simp only [ne_eq, not_true_eq_false, Bool.false_eq_true, false_or]
      by_cases hk : k = l.length
      · rw [if_pos (by rw [hk])]
        exact .inr ⟨_, fun i i1 i2 => by obtain rfl : i = k := by omega
                                         exact he, rfl⟩
      · rw [if_neg (by omega)]
        obtain ⟨d2, rfl⟩ : ∃ d2, d = d2 + 1 := ⟨d - 1, by omega⟩
        rcases from_word fold s l hs d2 f (k + 1) left (by omega) (by omega) (by omega) (by omega) with ⟨lf, j, j1, j2, j3, j4, j5⟩ | ⟨lf, j4, j5⟩
        · exact .inl ⟨lf, j, by omega, j2, j3, fun i i1 i2 => by
            by_cases hi : i = k
            · rw [hi]; exact he
            · exact j4 i (by omega) i2, by rw [← j5]; rfl⟩
        · exact .inr ⟨lf, fun i i1 i2 => by
            by_cases hi : i = k
            · rw [hi]; exact he
            · exact j4 i (by omega) i2, by rw [← j5]; rfl⟩
    · rw [if_pos rfl]
      exact .inl ⟨(left : Int), k, Nat.le_refl _, eqAt_len fold l s k (by omega) he, he, fun i i1 i2 => by omega, by simp⟩
end Go.Proofs.Ytigbfgmgdfnhcaa
