/- Plain laws of a replacement's pieces. -/
import Derived.Test.YtalgdihaeglleaaExpO
namespace Go.Proofs.Ytalgdihaeglleaa
open Go.RowKit

theorem Wr.lay_plain (x : Wr) (l : List UInt8) (hn : x.next = none) (ha : x.all = none) : x.lay l = { x with line := x.line ++ l } := by
  induction l generalizing x with
  | nil => simp [Wr.lay]
  | cons c l ih =>
    simp only [Wr.lay, List.foldl_cons] at ih ⊢
    have hp : x.put c = { x with line := x.line ++ [c] } := by
      obtain ⟨d, ln, n, a⟩ := x
      simp only at hn ha
      subst hn ha
      simp [Wr.put, Wr.how, caseU_none]
    rw [hp, ih ⟨x.done, x.line ++ [c], x.next, x.all⟩ hn ha]
    simp

theorem Wr.lay_all (x : Wr) (l : List UInt8) (hn : x.next = none) : x.lay l = { x with line := x.line ++ l.map (caseU x.all) } := by
  induction l generalizing x with
  | nil => simp [Wr.lay]
  | cons c l ih =>
    simp only [Wr.lay, List.foldl_cons] at ih ⊢
    have hp : x.put c = { x with line := x.line ++ [caseU x.all c] } := by
      obtain ⟨d, ln, n, a⟩ := x
      simp only at hn
      subst hn
      simp [Wr.put, Wr.how]
    rw [hp, ih ⟨x.done, x.line ++ [caseU x.all c], x.next, x.all⟩ hn]
    simp

/-! ### Pieces that say nothing of letters -/
def textOf (s : ByteArray) (mb me : Nat → Int) (t : Tm) : List UInt8 := if t.kind = 1 then t.text.data.toList else if t.kind = 2 then (groupB s mb me t.n).data.toList else []
def glue (p : List UInt8) : List (List UInt8) → List (List UInt8)
  | [] => [p]
  | h :: r => (p ++ h) :: r
def outs (s : ByteArray) (mb me : Nat → Int) : List Tm → List (List UInt8)
  | [] => [[]]
  | t :: ts => if t.kind = 3 then [] :: outs s mb me ts else glue (textOf s mb me t) (outs s mb me ts)
def joinL : List (List UInt8) → List (List UInt8) → List (List UInt8)
  | [], B => B
  | [a], B => glue a B
  | a :: a2 :: A, B => a :: joinL (a2 :: A) B

theorem glue_ne (p : List UInt8) (l : List (List UInt8)) : glue p l ≠ [] := by cases l <;> simp [glue]
theorem glue_len (p : List UInt8) {l : List (List UInt8)} (h : l ≠ []) : (glue p l).length = l.length := by cases l <;> simp_all [glue]
theorem glue_glue (p q : List UInt8) (l : List (List UInt8)) : glue p (glue q l) = glue (p ++ q) l := by cases l <;> simp [glue]
theorem glue_nil {l : List (List UInt8)} (h : l ≠ []) : glue [] l = l := by cases l <;> simp_all [glue]
theorem outs_ne (s : ByteArray) (mb me : Nat → Int) (ts : List Tm) : outs s mb me ts ≠ [] := by
  cases ts with
  | nil => simp [outs]
  | cons t ts =>
    unfold outs
    split
    · simp
    · exact glue_ne _ _
theorem outs_run (s : ByteArray) (mb me : Nat → Int) : ∀ (ts : List Tm) (x : Wr), (∀ t ∈ ts, t.kind ≠ 4) → x.next = none → x.all = none →
    (ts.foldl (Tm.run s mb me) x).cut.done = x.done ++ glue x.line (outs s mb me ts)
  | [], x, _, _, _ => by simp [Wr.cut, outs, glue]
  | t :: ts, x, h, hn, ha => by
    have ht := h t (by simp)
    have hts : ∀ u ∈ ts, u.kind ≠ 4 := fun u hu => h u (by simp [hu])
    simp only [List.foldl_cons]
    have hd : Tm.run s mb me x t = (if t.kind = 1 then x.lay t.text.data.toList else if t.kind = 2 then x.lay (groupB s mb me t.n).data.toList else if t.kind = 3 then x.cut else if t.kind = 4 then x.say t.c else x) := rfl
    rw [hd]
    clear hd
    unfold outs textOf
    by_cases h1 : t.kind = 1
    · rw [if_pos h1, if_neg (by omega), if_pos h1, Wr.lay_plain x _ hn ha, outs_run s mb me ts ⟨x.done, x.line ++ t.text.data.toList, x.next, x.all⟩ hts hn ha, glue_glue]
    · by_cases h2 : t.kind = 2
      · rw [if_neg h1, if_pos h2, if_neg (by omega), if_neg h1, if_pos h2, Wr.lay_plain x _ hn ha, outs_run s mb me ts ⟨x.done, x.line ++ (groupB s mb me t.n).data.toList, x.next, x.all⟩ hts hn ha, glue_glue]
      · by_cases h3 : t.kind = 3
        · rw [if_neg h1, if_neg h2, if_pos h3, if_pos h3, outs_run s mb me ts x.cut hts hn ha]
          have := glue_nil (outs_ne s mb me ts)
          simp only [Wr.cut, glue_nil (outs_ne s mb me ts)]
          simp [glue]
        · rw [if_neg h1, if_neg h2, if_neg h3, if_neg ht, if_neg h3, if_neg h1, if_neg h2, outs_run s mb me ts x hts hn ha, glue_glue]
          simp
theorem expLines_outs (s : ByteArray) (mb me : Nat → Int) (ts : List Tm) (h : ∀ t ∈ ts, t.kind ≠ 4) : expLines s mb me ts = outs s mb me ts := by
  unfold expLines runTms
  rw [outs_run s mb me ts Wr.zero h rfl rfl]
  simp [Wr.zero, glue_nil (outs_ne s mb me ts)]

def splitsOf (ts : List Tm) : Nat := ts.countP (fun t => t.kind = 3)
theorem outs_len (s : ByteArray) (mb me : Nat → Int) (ts : List Tm) : (outs s mb me ts).length = splitsOf ts + 1 := by
  induction ts with
  | nil => rfl
  | cons t ts ih =>
    have ho : outs s mb me (t :: ts) = if t.kind = 3 then [] :: outs s mb me ts else glue (textOf s mb me t) (outs s mb me ts) := rfl
    rw [ho]
    unfold splitsOf at *
    by_cases h3 : t.kind = 3
    · rw [if_pos h3, List.countP_cons_of_pos (by simpa using h3)]; simp [ih]
    · rw [if_neg h3, List.countP_cons_of_neg (by simpa using h3), glue_len _ (outs_ne s mb me ts), ih]
theorem glue_join (p : List UInt8) : ∀ (A B : List (List UInt8)), A ≠ [] → glue p (joinL A B) = joinL (glue p A) B
  | [], B, h => absurd rfl h
  | [a], B, _ => by show glue p (glue a B) = glue (p ++ a) B; exact glue_glue _ _ _
  | a :: a2 :: A, B, _ => by simp [joinL, glue]
theorem outs_append (s : ByteArray) (mb me : Nat → Int) : ∀ (l m : List Tm), outs s mb me (l ++ m) = joinL (outs s mb me l) (outs s mb me m)
  | [], m => by simp [outs, joinL, glue_nil (outs_ne s mb me m)]
  | t :: l, m => by
    have ih := outs_append s mb me l m
    have hne := outs_ne s mb me l
    have ho : outs s mb me (t :: l) = if t.kind = 3 then [] :: outs s mb me l else glue (textOf s mb me t) (outs s mb me l) := rfl
    have ho2 : outs s mb me (t :: l ++ m) = if t.kind = 3 then [] :: outs s mb me (l ++ m) else glue (textOf s mb me t) (outs s mb me (l ++ m)) := rfl
    rw [ho, ho2]
    by_cases h3 : t.kind = 3
    · rw [if_pos h3, if_pos h3, ih]
      cases ho : outs s mb me l with
      | nil => exact absurd ho hne
      | cons a A => rfl
    · rw [if_neg h3, if_neg h3, ih, glue_join _ _ _ hne]

/-- What stands at a place of two outputs laid one behind the other. -/
def wantAt (A B : List (List UInt8)) (i : Nat) : List UInt8 := (if i < A.length then A.getD i [] else []) ++ (if A.length ≤ i + 1 then B.getD (i + 1 - A.length) [] else [])
theorem join_len : ∀ (A B : List (List UInt8)), A ≠ [] → B ≠ [] → (joinL A B).length + 1 = A.length + B.length
  | [], _, h, _ => absurd rfl h
  | [a], B, _, hB => by simp only [joinL, glue_len a hB, List.length_cons, List.length_nil]; omega
  | a :: a2 :: A, B, _, hB => by
    have := join_len (a2 :: A) B (by simp) hB
    simp only [joinL, List.length_cons] at this ⊢
    omega
theorem join_at : ∀ (A B : List (List UInt8)) (i : Nat), A ≠ [] → B ≠ [] → (joinL A B).getD i [] = wantAt A B i
  | [], _, _, h, _ => absurd rfl h
  | [a], [], _, _, h => absurd rfl h
  | [a], b :: B, 0, _, _ => by simp [joinL, glue, wantAt]
  | [a], b :: B, i + 1, _, _ => by simp [joinL, glue, wantAt]
  | a :: a2 :: A, B, 0, _, _ => by simp [joinL, wantAt]
  | a :: a2 :: A, B, i + 1, _, hB => by
    have ih := join_at (a2 :: A) B i (by simp) hB
    simp only [joinL, List.getD_cons_succ]
    rw [ih]
    unfold wantAt
    simp only [List.length_cons, List.getD_cons_succ]
    congr 1
    · by_cases h : i < A.length + 1
      · rw [if_pos h, if_pos (by omega)]
      · rw [if_neg h, if_neg (by omega)]
    · by_cases h : A.length + 1 ≤ i + 1
      · rw [if_pos h, if_pos (by omega), show i + 1 + 1 - (A.length + 1 + 1) = i + 1 - (A.length + 1) by omega]
      · rw [if_neg h, if_neg (by omega)]

/-! ### A group alone -/
theorem group_alone (s : ByteArray) (mb me : Nat → Int) (k : Int) : expLines s mb me [⟨2, ⟨#[]⟩, k, 0⟩, ⟨2, ⟨#[]⟩, 10, 0⟩, ⟨2, ⟨#[]⟩, -1, 0⟩] = [(groupB s mb me k).data.toList] := by
  rw [expLines_outs _ _ _ _ (by simp)]
  have h1 : (groupB s mb me 10).data.toList = [] := by unfold groupB; rw [if_pos (by omega)]
  have h2 : (groupB s mb me (-1)).data.toList = [] := by unfold groupB; rw [if_pos (by omega)]
  simp [outs, textOf, glue, h1, h2]

/-! ### Splits alone -/
theorem outs_empty (s : ByteArray) (mb me : Nat → Int) (ts : List Tm) (h : ∀ t ∈ ts, t.kind ≠ 1 ∧ t.kind ≠ 2) : outs s mb me ts = List.replicate (splitsOf ts + 1) [] := by
  induction ts with
  | nil => rfl
  | cons t ts ih =>
    have ih := ih (fun u hu => h u (by simp [hu]))
    have ht := h t (by simp)
    have ho : outs s mb me (t :: ts) = if t.kind = 3 then [] :: outs s mb me ts else glue (textOf s mb me t) (outs s mb me ts) := rfl
    rw [ho]
    unfold splitsOf textOf at *
    by_cases h3 : t.kind = 3
    · rw [if_pos h3, List.countP_cons_of_pos (by simpa using h3), ih]; rfl
    · rw [if_neg h3, List.countP_cons_of_neg (by simpa using h3), ih, if_neg ht.1, if_neg ht.2]; rfl

/-! ### Letters -/
def sayC (h : Nat) : Int := if h = 0 then 117 else if h = 1 then 108 else if h = 2 then 85 else 76
def casedL (h : Nat) (l : List UInt8) : List UInt8 :=
  if h = 0 then (match l with | [] => [] | c :: r => caseU (some true) c :: r) else if h = 1 then (match l with | [] => [] | c :: r => caseU (some false) c :: r)
  else if h = 2 then l.map (caseU (some true)) else l.map (caseU (some false))
theorem casedL_len (h : Nat) (l : List UInt8) : (casedL h l).length = l.length := by
  unfold casedL
  repeat' split
  all_goals simp
theorem casedL_at (h : Nat) (hh : h < 4) (l : List UInt8) (i : Nat) (hi : i < l.length) : (casedL h l)[i]'(by rw [casedL_len]; exact hi) = caseU (if h > 1 ∨ i = 0 then some (decide (h % 2 = 0)) else none) l[i] := by
  match h, hh with
  | 0, _ =>
    match l, i, hi with
    | c :: r, 0, _ => simp [casedL]
    | c :: r, i + 1, _ => simp [casedL, caseU_none]
  | 1, _ =>
    match l, i, hi with
    | c :: r, 0, _ => simp [casedL]
    | c :: r, i + 1, _ => simp [casedL, caseU_none]
  | 2, _ => simp [casedL]
  | 3, _ => simp [casedL]
theorem next_lay (l : List UInt8) (m : Bool) : ((⟨[], [], some m, none⟩ : Wr).lay l).line = (match l with | [] => [] | c :: r => caseU (some m) c :: r) ∧ ((⟨[], [], some m, none⟩ : Wr).lay l).done = [] := by
  refine ⟨?_, Wr.lay_done _ _⟩
  cases l with
  | nil => rfl
  | cons c r =>
    have : (⟨[], [], some m, none⟩ : Wr).lay (c :: r) = (⟨[], [caseU (some m) c], none, none⟩ : Wr).lay r := rfl
    rw [this, Wr.lay_plain _ _ rfl rfl]
    rfl
theorem say_end (x : Wr) : x.say 69 = { x with next := none, all := none } := by simp [Wr.say]
theorem cases_lines (h : Nat) (hh : h < 4) (s t : ByteArray) (mb me : Nat → Int) :
    expLines ⟨#[]⟩ mb me [⟨4, ⟨#[]⟩, 0, sayC h⟩, ⟨1, s, 0, 0⟩, ⟨4, ⟨#[]⟩, 0, 69⟩, ⟨1, t, 0, 0⟩] = [casedL h s.data.toList ++ t.data.toList] := by
  simp only [expLines, runTms, List.foldl_cons, List.foldl_nil, Tm.run, if_pos, if_neg, show ¬ (4 : Int) = 1 by decide, show ¬ (4 : Int) = 2 by decide, show ¬ (4 : Int) = 3 by decide, if_false, say_end]
  rw [Wr.lay_plain _ _ rfl rfl]
  match h, hh with
  | 0, _ =>
    have e := next_lay s.data.toList true
    have z : Wr.zero.say (sayC 0) = ⟨[], [], some true, none⟩ := rfl
    rw [z]
    simp only [Wr.cut, e.1, e.2, casedL]
    simp
  | 1, _ =>
    have e := next_lay s.data.toList false
    have z : Wr.zero.say (sayC 1) = ⟨[], [], some false, none⟩ := rfl
    rw [z]
    simp only [Wr.cut, e.1, e.2, casedL]
    simp
  | 2, _ =>
    have z : Wr.zero.say (sayC 2) = ⟨[], [], none, some true⟩ := rfl
    rw [z, Wr.lay_all _ _ rfl]
    simp [Wr.cut, casedL]
  | 3, _ =>
    have z : Wr.zero.say (sayC 3) = ⟨[], [], none, some false⟩ := rfl
    rw [z, Wr.lay_all _ _ rfl]
    simp [Wr.cut, casedL]
end Go.Proofs.Ytalgdihaeglleaa
