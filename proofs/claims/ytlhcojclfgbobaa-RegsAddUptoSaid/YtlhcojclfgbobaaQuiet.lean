/- A region that draws its order, whose operations read and whose calls make new memory at most: one walk in the order of the text. -/
import Derived.WalkKit
import Derived.BigQuiet
import Derived.Lib.Hide
namespace Go.Proofs.Ytlhcojclfgbobaa
open Go.RowKit

section
variable {P : Program} {ops : Array Oper} {C : World → Prop} {a : Act} {o : Oper} {K : Act → Prop}

theorem quiet_val (v : Value) (hr : ∀ w, C w → (execOp a.eval o).run P w = .ok (.value v) w) (hk : K (a.put o.dst v)) : o.quiet P a C K :=
  ⟨v, fun w hw => by unfold Oper.quietAt; rw [hr w hw]; exact ⟨rfl, rfl⟩, hk⟩

theorem quiet_call (v : Value) (f : FuncId) (args : Array Value) (hr : ∀ w, C w → (execOp a.eval o).run P w = .ok (.enter f args) w) (hc : ∀ w, C w → Calls P f args w fun e w'' => e = .returned v ∧ C w'') (hk : K (a.put o.dst v)) : o.quiet P a C K :=
  ⟨v, fun w hw => by unfold Oper.quietAt; rw [hr w hw]; exact ⟨rfl, hc w hw⟩, hk⟩

theorem wpQ_val {Q : Act → Prop} {rest : List Oper} {v : Value} (hw : Region.wanted o (yielded ops a.tmps) = true) (hr : ∀ w, C w → (execOp a.eval o).run P w = .ok (.value v) w) (hk : wpQuiet P ops C Q rest (a.put o.dst v)) : wpQuiet P ops C Q (o :: rest) a :=
  wpQuiet_step fun _ hK => by rw [if_pos hw]; exact quiet_val v hr (hK _ hk)
theorem wpQ_call {Q : Act → Prop} {rest : List Oper} {v : Value} {f : FuncId} {args : Array Value} (hw : Region.wanted o (yielded ops a.tmps) = true) (hr : ∀ w, C w → (execOp a.eval o).run P w = .ok (.enter f args) w)
    (hc : ∀ w, C w → Calls P f args w fun e w'' => e = .returned v ∧ C w'') (hk : wpQuiet P ops C Q rest (a.put o.dst v)) : wpQuiet P ops C Q (o :: rest) a :=
  wpQuiet_step fun _ hK => by rw [if_pos hw]; exact quiet_call v f args hr hc (hK _ hk)
theorem wpQ_skip {Q : Act → Prop} {rest : List Oper} (hw : Region.wanted o (yielded ops a.tmps) = false) (hk : wpQuiet P ops C Q rest (a.put o.dst undef)) : wpQuiet P ops C Q (o :: rest) a :=
  wpQuiet_step fun _ hK => by rw [if_neg (by rw [hw]; exact Bool.false_ne_true)]; exact hK _ hk

/-- The worlds that have grown from W. -/
def From (W w : World) : Prop := Below W.heap.size W w

theorem From.refl (W : World) : From W W := Below.refl _ _
theorem From.cell {W w : World} (h : From W w) {p : Addr} {v : Value} (hc : W.cell? p = some v) : w.cell? p = some v := by
  have hlt : p.block < W.heap.size := World.block_lt_of_cell? W p hc
  rw [Below.cell h hlt]; exact hc
theorem From.froz {W w : World} (h : From W w) {p : Addr} {b : Bool} (hlt : p.block < W.heap.size) (hc : W.frozen? p = b) : w.frozen? p = b := by
  rw [Below.frozen h hlt]; exact hc
theorem From.call {W w w' : World} (h : From W w) (hb : Below w.heap.size w w') : From W w' := Below.trans h (hb.mono (Below.size h))

theorem From.of_calls {W w : World} (h : From W w) {f : FuncId} {args : Array Value} {v : Value} (hc : Calls P f args w fun e w' => e = .returned v ∧ Below w.heap.size w w') :
    Calls P f args w fun e w'' => e = .returned v ∧ From W w'' := hc.mono fun _ _ ⟨he, hb⟩ => ⟨he, From.call h hb⟩
theorem From.of_same {W w : World} (h : From W w) {f : FuncId} {args : Array Value} {v : Value} (hc : Calls P f args w fun e w' => e = .returned v ∧ w = w') :
    Calls P f args w fun e w'' => e = .returned v ∧ From W w'' := hc.mono fun _ _ ⟨he, hb⟩ => ⟨he, hb ▸ h⟩

theorem wp_region_from {id : Nat} {Q : Exit → Act → World → Prop} {w : World} {l : List Oper} (hm : P.follows .mixedOrders = true) (hB : Region.lexB .any l.toArray = true)
    (h : wpQuiet P l.toArray (From w) (fun a' => ∀ w', From w w' → Q .normal a' w') l a) : (Code.region id l.toArray true).wp P Q a w :=
  wp_region_quiet (C := From w) hm hB ((Below.refl _ _).drew) (by simpa using h)
theorem wpOps_of_quiet {Q : Exit → Act → World → Prop} : ∀ (l : List Oper) (k : Nat) (a : Act) (w : World), (∀ j, l[j]? = ops[k + j]?) → C w →
    wpQuiet P ops C (fun a' => ∀ w', C w' → Q .normal a' w') l a → wpOps P ops Q (List.range' k l.length) a w
  | [], _, a, w, _, hC, h => h w hC
  | o :: l, k, a, w, hl, hC, h => by
    have h0 : ops[k]? = some o := by simpa using (hl 0).symm
    rw [List.length_cons, List.range'_succ, wpOps_cons]
    have hq : qOp P ops C k (wpQuiet P ops C (fun a' => ∀ w', C w' → Q .normal a' w') l) a := by unfold qOp; simp only [h0]; exact h
    exact wpOp_of_qOp hC (fun a' w' hw' hk => wpOps_of_quiet l (k + 1) a' w' (fun j => by have := hl (j + 1); simpa [Nat.add_assoc, Nat.add_comm 1 j] using this) hw' hk) hq

theorem wp_region_from_still {id : Nat} {Q : Exit → Act → World → Prop} {w : World} {l : List Oper}
    (h : wpQuiet P l.toArray (From w) (fun a' => ∀ w', From w w' → Q .normal a' w') l a) : (Code.region id l.toArray false).wp P Q a w := by
  refine wp_region ?_
  have := wpOps_of_quiet (C := From w) (ops := l.toArray) l 0 a w (fun j => by simp) (From.refl w) h
  simpa [List.range_eq_range'] using this

/-- The same, as a thing that doesn't unfold by itself. -/
structure WQ (P : Program) (ops : Array Oper) (C : World → Prop) (Q : Act → Prop) (l : List Oper) (a : Act) : Prop where
  h : wpQuiet P ops C Q l a
theorem WQ_val {Q : Act → Prop} {rest : List Oper} {v : Value} (hw : Region.wanted o (yielded ops a.tmps) = true) (hr : ∀ w, C w → (execOp a.eval o).run P w = .ok (.value v) w) (hk : WQ P ops C Q rest (a.put o.dst v)) : WQ P ops C Q (o :: rest) a :=
  ⟨wpQ_val hw hr hk.h⟩
theorem WQ_call {Q : Act → Prop} {rest : List Oper} {v : Value} {f : FuncId} {args : Array Value} (hw : Region.wanted o (yielded ops a.tmps) = true) (hr : ∀ w, C w → (execOp a.eval o).run P w = .ok (.enter f args) w)
    (hc : ∀ w, C w → Calls P f args w fun e w'' => e = .returned v ∧ C w'') (hk : WQ P ops C Q rest (a.put o.dst v)) : WQ P ops C Q (o :: rest) a := ⟨wpQ_call hw hr hc hk.h⟩
theorem WQ_skip {Q : Act → Prop} {rest : List Oper} (hw : Region.wanted o (yielded ops a.tmps) = false) (hk : WQ P ops C Q rest (a.put o.dst undef)) : WQ P ops C Q (o :: rest) a := ⟨wpQ_skip hw hk.h⟩
theorem WQ_nil {Q : Act → Prop} (h : Q a) : WQ P ops C Q [] a := ⟨wpQuiet_nil h⟩
theorem wq_region_from {id : Nat} {Q : Exit → Act → World → Prop} {w : World} {l : List Oper} (hm : P.follows .mixedOrders = true) (hB : Region.lexB .any l.toArray = true)
    (h : WQ P l.toArray (From w) (fun a' => ∀ w', From w w' → Q .normal a' w') l a) : (Code.region id l.toArray true).wp P Q a w := wp_region_from hm hB h.h
theorem wq_region_from_still {id : Nat} {Q : Exit → Act → World → Prop} {w : World} {l : List Oper}
    (h : WQ P l.toArray (From w) (fun a' => ∀ w', From w w' → Q .normal a' w') l a) : (Code.region id l.toArray false).wp P Q a w := wp_region_from_still h.h
end
end Go.Proofs.Ytlhcojclfgbobaa
