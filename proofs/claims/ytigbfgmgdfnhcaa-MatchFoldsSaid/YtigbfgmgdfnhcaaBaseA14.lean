/- Lemmas that the law's proof stands on, part 14: PatQ, PatR. No condition. -/
import Derived.Test.YtigbfgmgdfnhcaaBaseA0
import Derived.Test.YtigbfgmgdfnhcaaBaseA13
set_option linter.all false
set_option linter.unusedVariables false
set_option linter.unusedSimpArgs false
namespace Go.Proofs.Ytigbfgmgdfnhcaa
open Go.RowKit
/-- What is known of a reader and its branch at each place of a branch. -/
structure Fine (st : RdD) (b : BrD) : Prop where
  len : st.nodes.length ≤ 401
  may : b.may = true → b.kids ≠ []
/-- A step. -/
structure Stp (b : BrD) (st2 : RdD) (b2 : BrD) : Prop where
  fine : Fine st2 b2
  kids : b2.kids.length ≤ b.kids.length + 1
theorem Stp.laid {st : RdD} {b : BrD} {n : NodeD} {m : Bool} (h : st.nodes.length ≤ 401) : Stp b (st.laid b n m).1 (st.laid b n m).2 :=
  ⟨⟨node_len h, fun _ => by simp [RdD.laid, BrD.piece]⟩, by simp [RdD.laid, BrD.piece]⟩
theorem Stp.same {st : RdD} {b : BrD} (h : Fine st b) : Stp b st b := ⟨h, Nat.le_succ _⟩
theorem wrong_nodes (st : RdD) (e : Int) (i : Nat) : (st.wrong e i).nodes = st.nodes := by unfold RdD.wrong; split <;> rfl
theorem Stp.wrong {st : RdD} {b : BrD} (h : Fine st b) (e : Int) (i : Nat) : Stp b (st.wrong e i) b := ⟨⟨by rw [wrong_nodes]; exact h.len, h.may⟩, Nat.le_succ _⟩
theorem Stp.bound {st : RdD} {b : BrD} {n : NodeD} {nx : Nat} (h : Fine st b) (hm : b.kids ≠ []) : Stp b (st.bound b n nx).1 (st.bound b n nx).2 := by
  refine ⟨⟨node_len h.len, fun e => by simp [RdD.bound] at e⟩, ?_⟩
  simp only [RdD.bound, List.length_append, List.length_dropLast, List.length_cons, List.length_nil]
  omega
theorem Stp.many {st : RdD} {b : BrD} (h : Fine st b) (l : List UInt8) (c : Int) (i next : Nat) : Stp b (st.many l b c i next).1 (st.many l b c i next).2 := by
  unfold RdD.many
  split
  · split
    · exact ⟨⟨node_len (st := st) h.len, fun _ => by simp [BrD.piece]⟩, by simp [BrD.piece]⟩
    · exact Stp.wrong h _ _
  · rename_i hm
    have hk := h.may (by cases e : b.may; exact absurd e hm; rfl)
    split
    · split
      · exact Stp.wrong h _ _
      · exact Stp.bound h hk
    · exact Stp.bound h hk
theorem Stp.group {rec : RdD → Option (Nat × RdD)} (hr : RecN rec) {st st2 : RdD} {b b2 : BrD} (h : Fine st b) {l : List UInt8} {i : Nat} (hq : st.group rec l b i = some (st2, b2)) : Stp b st2 b2 := by
  unfold RdD.group at hq
  split at hq
  · injection hq with hq; injection hq with h1 h2; subst h1 h2; exact Stp.wrong h _ _
  · split at hq
    · cases hq
    · rename_i k s1 hrec
      have hl := hr _ _ _ (show ({ st with groups := st.groups + 1 } : RdD).nodes.length ≤ 401 from h.len) hrec
      split at hq
      · injection hq with hq; injection hq with h1 h2; subst h1 h2; exact ⟨⟨hl, h.may⟩, Nat.le_succ _⟩
      · split at hq
        · injection hq with hq; injection hq with h1 h2; subst h1 h2; exact Stp.wrong ⟨hl, h.may⟩ _ _
        · injection hq with hq
          have hs : Stp b _ _ := Stp.laid (st := { s1 with pos := (tokenF l s1.mode s1.case s1.pos).1.next, done := s1.done.set (st.groups + 1) true }) (b := b) (n := { op := 8, n := ((st.groups + 1 : Nat) : Int), kids := [k] }) (m := true) hl
          rw [hq] at hs
          exact hs
theorem coll_nodes2 (st : RdD) (l : List UInt8) (o : Nat) : (st.collection l o).2.2.nodes = st.nodes := by
  obtain ⟨Q, hQ⟩ : ∃ Q, st.collection l o = Q := ⟨_, rfl⟩
  obtain ⟨x, e1, s2⟩ := Q
  rw [hQ]
  exact coll_nodes hQ
theorem Stp.sign {rec : RdD → Option (Nat × RdD)} (hr : RecN rec) {st st2 : RdD} {b b2 : BrD} (h : Fine st b) {l : List UInt8} {c : Int} {i next : Nat} (hq : st.sign rec l b c i next = some (st2, b2)) : Stp b st2 b2 := by
  have hl : ({ st with pos := next } : RdD).nodes.length ≤ 401 := h.len
  have hF : Fine { st with pos := next } b := ⟨h.len, h.may⟩
  have go : ∀ q : RdD × BrD, Stp b q.1 q.2 → some q = some (st2, b2) → Stp b st2 b2 := by
    intro q hs e
    injection e with e
    rw [e] at hs
    exact hs
  unfold RdD.sign at hq
  simp only [] at hq
  split at hq
  · split at hq
    · exact go _ (Stp.laid hl) hq
    · exact go _ (Stp.laid hl) hq
  · split at hq
    · split at hq
      · exact go _ (Stp.laid hl) hq
      · exact go _ (Stp.laid hl) hq
    · split at hq
      · exact go _ (Stp.laid hl) hq
      · split at hq
        · exact go _ (Stp.laid hl) hq
        · split at hq
          · exact go _ (Stp.laid hl) hq
          · split at hq
            · exact go _ (Stp.laid hl) hq
            · split at hq
              · have hc : (({ st with pos := next } : RdD).collection l (next - 1)).2.2.nodes.length ≤ 401 := by
                  rw [coll_nodes2]; exact hl
                split at hq
                · exact go _ (by exact Stp.laid hc) hq
                · exact go _ (Stp.laid hc) hq
              · split at hq
                · exact Stp.group hr hF hq
                · exact go _ (Stp.many hF l c i next) hq
/-- Of a token's node: a number behind a backslash is 1 to 9. -/
def backIn (q : TokD × Bool) : Prop := q.1.node.op = 9 → 1 ≤ q.1.node.n ∧ q.1.node.n ≤ 9
theorem ite_ind2 {α : Type} (P : α → Prop) {p : Prop} [Decidable p] {a b : α} (ha : p → P a) (hb : P b) : P (if p then a else b) := by
  by_cases h : p
  · rw [if_pos h]; exact ha h
  · rw [if_neg h]; exact hb
theorem backIn_of {t : TokD} {b : Bool} (h : t.node.op ≠ 9) : backIn (t, b) := fun e => absurd e h
theorem slash_back (l : List UInt8) (mode cs : Int) (i : Nat) : backIn (slashF l mode cs i) := by
  unfold slashF
  have h0 : (0 : Int) ≠ 9 := by decide
  have h2 : (2 : Int) ≠ 9 := by decide
  have h4 : (4 : Int) ≠ 9 := by decide
  have h14 : (14 : Int) ≠ 9 := by decide
  have h15 : (15 : Int) ≠ 9 := by decide
  repeat' (first
    | exact backIn_of h0
    | exact backIn_of h2
    | exact backIn_of h4
    | exact backIn_of h14
    | exact backIn_of h15
    | (refine ite_ind2 backIn (fun h => (fun _ => ⟨?_, ?_⟩)) ?_; (show 1 ≤ bl l (i + 1) - 48; omega); (show bl l (i + 1) - 48 ≤ 9; omega))
    | refine ite_ind backIn ?_ ?_)
theorem token_back (l : List UInt8) (mode cs : Int) (i : Nat) : backIn (tokenF l mode cs i) := by
  unfold tokenF
  refine ite_ind backIn (slash_back l mode cs i) ?_
  exact ite_ind backIn (backIn_of (show (0 : Int) ≠ 9 by decide)) (backIn_of (show (2 : Int) ≠ 9 by decide))
def kidsIn (q : TokD × Bool) : Prop := q.1.node.kids = []
theorem kidsIn_of {t : TokD} {b : Bool} (h : t.node.kids = []) : kidsIn (t, b) := h
theorem slash_kids (l : List UInt8) (mode cs : Int) (i : Nat) : kidsIn (slashF l mode cs i) := by
  unfold slashF
  repeat' (first | exact kidsIn_of rfl | refine ite_ind kidsIn ?_ ?_)
theorem token_kids (l : List UInt8) (mode cs : Int) (i : Nat) : kidsIn (tokenF l mode cs i) := by
  unfold tokenF
  exact ite_ind kidsIn (slash_kids l mode cs i) (ite_ind kidsIn (kidsIn_of rfl) (kidsIn_of rfl))
end Go.Proofs.Ytigbfgmgdfnhcaa
namespace Go.Proofs.Ytigbfgmgdfnhcaa
open Go.RowKit
section
variable {rec : RdD → Option (Nat × RdD)} {l : List UInt8} {within : Bool} {g : Nat} {r : RdD} {b : BrD} {t : TokD} {q : RdD × BrD}
theorem bl_stop (h : branchL rec l within (g + 1) r b = some q) (hs : r.err ≠ 0 ∨ l.length ≤ r.pos) : q = (r, b) := by
  unfold branchL at h; rw [if_pos hs] at h; exact (Option.some.inj h).symm
theorem bl_bad {ok : Bool} (h : branchL rec l within (g + 1) r b = some q) (hs : ¬ (r.err ≠ 0 ∨ l.length ≤ r.pos)) (ht : tokenF l r.mode r.case r.pos = (t, ok)) (ho : ok = false) : q = (r.wrong 30 r.pos, b) := by
  subst ho
  unfold branchL at h; rw [if_neg hs, ht] at h; simp only [if_pos] at h; exact (Option.some.inj h).symm
theorem bl_non (h : branchL rec l within (g + 1) r b = some q) (hs : ¬ (r.err ≠ 0 ∨ l.length ≤ r.pos)) (ht : tokenF l r.mode r.case r.pos = (t, true)) (hn : t.non = true) : branchL rec l within g { r with mode := t.mode, case := t.case, pos := t.next } b = some q := by
  unfold branchL at h; rw [if_neg hs, ht] at h; simp only [hn, if_pos, Bool.true_eq_false, if_false] at h; exact h
theorem bl_rest (h : branchL rec l within (g + 1) r b = some q) (hs : ¬ (r.err ≠ 0 ∨ l.length ≤ r.pos)) (ht : tokenF l r.mode r.case r.pos = (t, true)) (hn : t.non = false) :
    (if t.sign = 124 ∨ (t.sign = 41 ∧ within = true) then some (r, b)
      else if t.sign = 41 then some (r.wrong 31 r.pos, b)
      else if t.sign ≠ 0 then
        match r.sign rec l b t.sign r.pos t.next with
        | none => none
        | some (s, b2) => branchL rec l within g s b2
      else if t.node.op = 9 ∧ r.done.getD t.node.n.toNat true = false then some (r.wrong 31 r.pos, b)
      else branchL rec l within g ({ r with pos := t.next }.laid b t.node (t.node.op != 14 && t.node.op != 15)).1 ({ r with pos := t.next }.laid b t.node (t.node.op != 14 && t.node.op != 15)).2) = some q := by
  unfold branchL at h; rw [if_neg hs, ht] at h; simp only [hn, Bool.true_eq_false, if_false, Bool.false_eq_true] at h; exact h
end
theorem exec_load_part {P : Program} {a : Act} {op : Oper} {w : World} (ty : TypeId) (x : Operand) (ho : op.op = .load ty x) (b o : Nat) (hx : a.eval x = .pointer (some ⟨b, o, none⟩)) (C D : Array Value) (T : TypeId) (fr : Nat × Nat) (d : TypeDesc)
    (hb : w.heap[b]? = some (.cells C T fr)) (hu : P.underlying ty = some d) (hd : d.isRow = true) (hD : C.extract o (o + D.size) = D) (hi : (P.info? ty).map (·.size) = some D.size) : (execOp a.eval op).run P w = .ok (.value (.agg D)) w := by
  have hr := World.rangeAt_of_block hb o D.size
  rw [hD] at hr
  unfold execOp
  simp only [ho, hx, Instr.loadAt, Instr.sureAddr, Sem.run_bind, Sem.run_pure, Result.andThen_ok, run_loadVar_mid w b o ty D.toList d hr hu hd (by simpa using hi)]
/-- The end of a branch. -/
theorem branch_fin {w0 w w2 : World} {B rb bb : Nat} {s : ByteArray} {nv0 : Value} {Z0 : Nat → Prop} {st st2 : RdD} {b : BrD} {nv : Value} {kvs : List Value} {kv : Value} {Z : Nat → Prop} (h : Now w0 B rb bb s nv0 (.slice none 0 0) Z0 st b nv kvs kv Z w) (hbb : w0.heap.size ≤ bb)
    (hT : RdTo w B rb s nv Z (fun k => kv.ownBlock = some k) st2 w2) : RdTo w0 B rb s nv0 Z0 (fun _ => False) st2 w2 := by
  obtain ⟨nv', kvs', Z', h1, h2, h3, h4, h5⟩ := hT
  have hsz := h.upd.size
  refine ⟨nv', kvs', Z', h1, ?_, fun g hg => ?_, fun k hk => h4 k (h.zin k hk), fun k hk => ?_⟩
  · have hA : Upd (fun k => k = rb ∨ nv0.ownBlock = some k) w0 w := ⟨h.upd.os, h.upd.tape, h.upd.output, h.upd.size, fun k hk hn => h.upd.block k hk (fun e => by
      rcases e with e | e | e | e
      · exact hn (.inl e)
      · omega
      · exact hn (.inr e)
      · simp [Value.ownBlock] at e)⟩
    refine hA.then h2 (fun i hi e => ?_)
    rcases e with e | e
    · exact .inl e
    · rcases h.nvn i e with e2 | e2
      · exact .inr e2
      · omega
  · rcases h3 g hg with e | e
    · exact h.nvn g e
    · exact .inr (by omega)
  · rcases h5 k hk with e | e | e
    · rcases h.zout k e with e2 | e2
      · exact .inl e2
      · exact .inr (.inr e2)
    · rcases h.kvn k e with e2 | e2
      · simp [Value.ownBlock] at e2
      · exact .inr (.inr e2)
    · exact .inr (.inr (by omega))
theorem done_cell (s : ByteArray) (st : RdD) (nv : Value) (m : Nat) (h : m < 10) (hd : st.done.length = 10) : (rdC s st nv)[7 + m]? = some (.bool (st.done.getD m true)) := by
  have h2 : m = 0 ∨ m = 1 ∨ m = 2 ∨ m = 3 ∨ m = 4 ∨ m = 5 ∨ m = 6 ∨ m = 7 ∨ m = 8 ∨ m = 9 := by omega
  obtain ⟨d0, d1, d2, d3, d4, d5, d6, d7, d8, d9, e⟩ : ∃ d0 d1 d2 d3 d4 d5 d6 d7 d8 d9, st.done = [d0, d1, d2, d3, d4, d5, d6, d7, d8, d9] := by
    match hq : st.done, hd with
    | [d0, d1, d2, d3, d4, d5, d6, d7, d8, d9], _ => exact ⟨d0, d1, d2, d3, d4, d5, d6, d7, d8, d9, rfl⟩
  rcases h2 with rfl | rfl | rfl | rfl | rfl | rfl | rfl | rfl | rfl | rfl <;> simp [rdC, e]
def BrPost (w : World) (B rb : Nat) (s : ByteArray) (nv : Value) (Z : Nat → Prop) (k : Nat) (st2 : RdD) (e : Ending) (w' : World) : Prop := e = .returned (.int .i64 (k : Nat)) ∧ RdTo w B rb s nv Z (fun _ => False) st2 w'
end Go.Proofs.Ytigbfgmgdfnhcaa
