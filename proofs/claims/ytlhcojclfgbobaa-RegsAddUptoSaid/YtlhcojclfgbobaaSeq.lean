/- A region that draws its order, walked in one order of its own: what only reads is taken as soon as it may come up, what turns the world comes in the one order that its edges leave. -/
import Derived.OrdersHeld
import Derived.WalkKit
namespace Go.Proofs.Ytlhcojclfgbobaa
open Go.RowKit

section
variable {P : Program} {ops : Array Oper} {Q : Exit → Act → World → Prop} {md : Region.Mode} {S : World → Prop} {G : Nat → Bool}

/-- Whatever order is picked from here on; behind each operation of G the condition S holds. -/
def wpAnyG (P : Program) (md : Region.Mode) (ops : Array Oper) (Q : Exit → Act → World → Prop) (S : World → Prop) (G : Nat → Bool) : Nat → Array Bool → Act → World → Prop
  | 0, listed, a, w => Region.ready md ops listed = [] ∧ Q .normal a w
  | fuel + 1, listed, a, w =>
    (Region.ready md ops listed = [] → Q .normal a w) ∧
    ∀ i ∈ Region.ready md ops listed, wpOp P ops Q i (fun a' w' => (G i = true → S w') ∧ wpAnyG P md ops Q S G fuel (listed.setIfInBounds i true) a' w') a w

theorem wpAny_of_G : ∀ (fuel : Nat) (listed : Array Bool) (a : Act) (w : World), wpAnyG P md ops Q S G fuel listed a w → wpAny P md ops Q fuel listed a w
  | 0, _, _, _, h => h
  | fuel + 1, _, _, _, h => ⟨h.1, fun i hi => wpOp_mono (fun a' w' h' => wpAny_of_G fuel _ a' w' h'.2) (h.2 i hi)⟩

/-- Those that come behind i, through however many others. -/
def reachB (md : Region.Mode) (ops : Array Oper) (i : Nat) : List Nat :=
  (List.range ops.size).foldl (fun B j => match ops[j]? with
    | some oj => if oj.after.any (fun e => Region.binds md e && (e.on == i || B.contains e.on)) then j :: B else B
    | none => B) []
def closedB (md : Region.Mode) (ops : Array Oper) (listed : Array Bool) (i : Nat) (B : List Nat) : Bool :=
  B.all fun j => !listed.getD j true && match ops[j]? with
    | some oj => oj.after.any (fun e => Region.binds md e && (e.on == i || B.contains e.on))
    | none => false
/-- Nobody who could come before i touches its temporaries, and each of them is of G. -/
def freeG (md : Region.Mode) (ops : Array Oper) (G : Nat → Bool) (listed : Array Bool) (i : Nat) : Bool :=
  closedB md ops listed i (reachB md ops i) && match ops[i]? with
  | none => false
  | some oi => (List.range ops.size).all fun j => j == i || listed.getD j true || (reachB md ops i).contains j || match ops[j]? with
      | some oj => oi.apart ops oj && G j
      | none => true

theorem freeG_spec {i j : Nat} {oi : Oper} {listed : Array Bool} (hi : ops[i]? = some oi) (h : freeG md ops G listed i = true) {oj : Oper} (hj : ops[j]? = some oj) (hne : j ≠ i) (hun : listed.getD j true = false)
    (hno : j ∉ reachB md ops i) : oi.apart ops oj = true ∧ G j = true := by
  simp only [freeG, hi, Bool.and_eq_true, List.all_eq_true, List.mem_range] at h
  have h1 := h.2 j (Array.getElem?_eq_some_iff.1 hj).1
  simpa [hj, hne, hun, hno] using h1

theorem wpAnyG_first {i : Nat} {oi : Oper} {v : Value} (B : List Nat) (hi : ops[i]? = some oi) (hsel : ∀ (j : Nat) (o : Oper) cs b, ops[j]? = some o → o.op ≠ .select cs b)
    (hQ : ∀ c a w, Q (.panic c) (a.put oi.dst v) w → Q (.panic c) a w) :
    ∀ (fuel : Nat) (listed : Array Bool) (a : Act) (w : World),
      closedB md ops listed i B = true →
      (∀ j oj, ops[j]? = some oj → j ≠ i → listed.getD j true = false → j ∉ B → oi.apart ops oj = true ∧ G j = true) →
      i ∈ Region.ready md ops listed → YieldsIf P ops S oi v a → S w →
      wpAnyG P md ops Q S G fuel (listed.setIfInBounds i true) (a.put oi.dst v) w → wpAnyG P md ops Q S G (fuel + 1) listed a w := by
  intro fuel
  induction fuel with
  | zero =>
    intro listed a w _ _ hr hy hS H
    refine ⟨fun h => (by rw [h] at hr; cases hr), fun j hj => ?_⟩
    by_cases hji : j = i
    · subst hji; exact hy.wpOp hi hS ⟨fun _ => hS, H⟩
    · have := ready_mono hj hji
      rw [H.1] at this
      cases this
  | succ fuel ih =>
    intro listed a w hcl hfree hr hy hS H
    refine ⟨fun h => (by rw [h] at hr; cases hr), fun j hj => ?_⟩
    by_cases hji : j = i
    · subst hji; exact hy.wpOp hi hS ⟨fun _ => hS, H⟩
    · have h1 := H.2 j (ready_mono hj hji)
      obtain ⟨hjun, oj, hoj, hall⟩ := mem_ready.1 hj
      have hiun := (mem_ready.1 hr).1
      have hcl' := hcl
      simp only [closedB, List.all_eq_true, Bool.and_eq_true, Bool.not_eq_true'] at hcl'
      have hnot : j ∉ B := fun hjB => by
        have h2 := (hcl' j hjB).2
        simp only [hoj] at h2
        obtain ⟨e, he, hb⟩ := Array.any_eq_true'.1 h2
        simp only [Bool.and_eq_true, Bool.or_eq_true, beq_iff_eq, List.contains_iff_mem] at hb
        have h3 := hall e he hb.1
        have h4 : listed.getD e.on true = false := by
          rcases hb.2 with h | h
          · rw [h]; exact hiun
          · exact (hcl' e.on h).1
        rcases Nat.lt_or_ge e.on listed.size with h' | h'
        · simp [h'] at h3 h4; rw [h4] at h3; cases h3
        · simp [Array.getElem?_eq_none h'] at h3
      have hap := hfree j oj hoj hji hjun hnot
      have h2 := wpOp_putIf hoj hap.1 (fun cs b => hsel i oi cs b hi) (fun cs b => hsel j oj cs b hoj) hQ hy h1
      refine wpOp_mono (fun a' w' h3 => ?_) h2
      refine ⟨h3.2.1, ih (listed.setIfInBounds j true) a' w' ?_ ?_ (ready_mono hr (Ne.symm hji)) h3.1 (h3.2.1 hap.2) ?_⟩
      · simp only [closedB, List.all_eq_true, Bool.and_eq_true, Bool.not_eq_true']
        intro k hk
        refine ⟨?_, (hcl' k hk).2⟩
        have hjk : j ≠ k := fun e => hnot (e ▸ hk)
        rw [getD_set_ne true hjk]; exact (hcl' k hk).1
      · intro k ok hk hki hun hno
        refine hfree k ok hk hki ?_ hno
        by_cases hjk : j = k
        · subst hjk; exact hjun
        · rw [getD_set_ne true hjk] at hun; exact hun
      · rw [Array.setIfInBounds_comm _ _ hji]
        exact h3.2.2

/-- The order: (i, true) only reads and may be taken now; (i, false) is the one that comes up. -/
def seqB (md : Region.Mode) (ops : Array Oper) (G : Nat → Bool) : List (Nat × Bool) → Array Bool → Bool
  | [], listed => (Region.ready md ops listed).isEmpty
  | (i, true) :: l, listed => (Region.ready md ops listed).contains i && freeG md ops G listed i && seqB md ops G l (listed.setIfInBounds i true)
  | (i, false) :: l, listed => (Region.ready md ops listed == [i]) && seqB md ops G l (listed.setIfInBounds i true)

/-- The walk in that order. -/
def wpSeq (P : Program) (ops : Array Oper) (Q : Exit → Act → World → Prop) (S : World → Prop) (G : Nat → Bool) : List (Nat × Bool) → Act → World → Prop
  | [], a, w => Q .normal a w
  | (i, true) :: l, a, w => ∃ o v, ops[i]? = some o ∧ YieldsIf P ops S o v a ∧ S w ∧ wpSeq P ops Q S G l (a.put o.dst v) w
  | (i, false) :: l, a, w => wpOp P ops Q i (fun a' w' => (G i = true → S w') ∧ wpSeq P ops Q S G l a' w') a w

theorem wpAnyG_of_seq (hsel : Region.noSelect ops = true) (hQ : ∀ c a d v w, Q (.panic c) (Act.put a d v) w → Q (.panic c) a w) :
    ∀ (l : List (Nat × Bool)) (listed : Array Bool) (a : Act) (w : World), seqB md ops G l listed = true → wpSeq P ops Q S G l a w → wpAnyG P md ops Q S G l.length listed a w
  | [], listed, a, w, hB, h => ⟨by simpa [seqB] using hB, h⟩
  | (i, true) :: l, listed, a, w, hB, h => by
    simp only [seqB, Bool.and_eq_true] at hB
    obtain ⟨⟨hr, hf⟩, hB'⟩ := hB
    obtain ⟨o, v, ho, hy, hS, hk⟩ := h
    have hf' := hf
    simp only [freeG, Bool.and_eq_true] at hf'
    exact wpAnyG_first (reachB md ops i) ho (Region.noSelect_spec hsel) (fun c a w h => hQ c a _ _ w h) l.length listed a w
      hf'.1 (fun j oj hj hne hun hno => freeG_spec ho hf hj hne hun hno) (by simpa using hr) hy hS
      (wpAnyG_of_seq hsel hQ l _ _ _ hB' hk)
  | (i, false) :: l, listed, a, w, hB, h => by
    simp only [seqB, Bool.and_eq_true, beq_iff_eq] at hB
    obtain ⟨hr, hB'⟩ := hB
    refine ⟨fun h0 => (by rw [hr] at h0; cases h0), fun j hj => ?_⟩
    rw [hr] at hj
    obtain rfl : j = i := by simpa using hj
    exact wpOp_mono (fun a' w' h' => ⟨h'.1, wpAnyG_of_seq hsel hQ l _ _ _ hB' h'.2⟩) h

theorem wp_region_seq {id : Nat} {l : List Oper} {a : Act} {w : World} (S : World → Prop) (G : Nat → Bool) (s : List (Nat × Bool)) (hm : P.follows .mixedOrders = true)
    (hB : (Region.noSelect l.toArray && s.length == l.toArray.size && seqB .any l.toArray G s (Array.replicate l.toArray.size false)) = true) (hQ : ∀ c a d v w, Q (.panic c) (Act.put a d v) w → Q (.panic c) a w)
    (h : wpSeq P l.toArray Q S G s a w.drew) : (Code.region id l.toArray true).wp P Q a w := by
  simp only [Bool.and_eq_true, beq_iff_eq] at hB
  obtain ⟨⟨h1, h2⟩, h3⟩ := hB
  refine wp_region_any hm (wpAny_of_G (S := S) (G := G) _ _ _ _ ?_)
  have h4 := wpAnyG_of_seq h1 hQ s _ _ _ h3 h
  rw [h2] at h4
  exact h4

theorem seq_val {i : Nat} {s : List (Nat × Bool)} {a : Act} {w : World} {o : Oper} {v : Value} (ho : ops[i]? = some o) (hw : Region.wanted o (yielded ops a.tmps) = true) (hr : ∀ w', S w' → (execOp a.eval o).run P w' = .ok (.value v) w')
    (hS : S w) (hk : wpSeq P ops Q S G s (a.put o.dst v) w) : wpSeq P ops Q S G ((i, true) :: s) a w := ⟨o, v, ho, .inl ⟨hw, hr⟩, hS, hk⟩
theorem seq_skip {i : Nat} {s : List (Nat × Bool)} {a : Act} {w : World} {o : Oper} (ho : ops[i]? = some o) (hw : Region.wanted o (yielded ops a.tmps) = false)
    (hS : S w) (hk : wpSeq P ops Q S G s (a.put o.dst undef) w) : wpSeq P ops Q S G ((i, true) :: s) a w := ⟨o, undef, ho, .inr ⟨hw, rfl⟩, hS, hk⟩
theorem seq_loud {i : Nat} {s : List (Nat × Bool)} {a : Act} {w : World} {o : Oper} (ho : ops[i]? = some o)
    (h : ∀ K : Act → World → Prop, (∀ a w, (G i = true → S w) → wpSeq P ops Q S G s a w → K a w) → if Region.wanted o (yielded ops a.tmps) = true then Oper.wp P o a w K Q else K (a.put o.dst undef) w) :
    wpSeq P ops Q S G ((i, false) :: s) a w := by
  have := h (fun a' w' => (G i = true → S w') ∧ wpSeq P ops Q S G s a' w') (fun a' w' h1 h2 => ⟨h1, h2⟩)
  show wpOp P ops Q i _ a w
  unfold wpOp
  simp only [ho]
  split
  · rename_i hw; rw [if_pos hw] at this; exact .inl this
  · rename_i hw; rw [if_neg hw] at this; exact this
theorem seq_call {i : Nat} {s : List (Nat × Bool)} {a : Act} {w : World} {o : Oper} {f : FuncId} {args : Array Value} (C : Value → World → Prop) (ho : ops[i]? = some o) (hw : Region.wanted o (yielded ops a.tmps) = true)
    (hr : (execOp a.eval o).run P w = .ok (.enter f args) w) (hc : Calls P f args w fun e w' => ∃ v, e = .returned v ∧ C v w') (hk : ∀ v w', C v w' → (G i = true → S w') ∧ wpSeq P ops Q S G s (a.put o.dst v) w') :
    wpSeq P ops Q S G ((i, false) :: s) a w := by
  show wpOp P ops Q i _ a w
  unfold wpOp
  simp only [ho]
  rw [if_pos hw]
  refine .inl ?_
  unfold Oper.wp
  rw [hr, Oper.upon_enter]
  refine hc.mono ?_
  rintro e w' ⟨v, rfl, hv⟩
  exact hk v w' hv
theorem loud_val {a : Act} {w w' : World} {o : Oper} {v : Value} {K : Act → World → Prop} {E : Prop} (hw : Region.wanted o (yielded ops a.tmps) = true) (hr : (execOp a.eval o).run P w = .ok (.value v) w') (h : K (a.put o.dst v) w') :
    if Region.wanted o (yielded ops a.tmps) = true then Oper.wp P o a w K Q else E := by
  rw [if_pos hw]
  unfold Oper.wp
  rw [hr]
  exact h
theorem seq_nil {a : Act} {w : World} (h : Q .normal a w) : wpSeq P ops Q S G [] a w := h
end
end Go.Proofs.Ytlhcojclfgbobaa
