/- Lemmas that the law's proof stands on, part 3: Mem, Blk, Stop, Seq. No condition. -/
import Derived.Test.YtigbfgmgdfnhcaaBaseA0
import Derived.Deep.MidRow
import Derived.Deep.RegionWith
import Derived.Laws.ResultCell
import Derived.Laws.Rows
import Derived.Lib.Hide
import Derived.Maps.AppendAt
import Derived.OrdersHeld
import Derived.OwnWalk
import Derived.Test.YtigbfgmgdfnhcaaProg
import Derived.WalkKit
import Derived.Test.YtigbfgmgdfnhcaaBaseA1
set_option linter.all false
set_option linter.unusedVariables false
set_option linter.unusedSimpArgs false
namespace Go.Proofs.Ytigbfgmgdfnhcaa
open Go.RowKit
/-- From w to w2 new blocks may have come, and of the old ones those of F may have turned. -/
structure Upd (F : Nat → Prop) (w w' : World) : Prop where
  os : w'.os = w.os
  tape : w'.tape = w.tape
  output : w'.output = w.output
  size : w.heap.size ≤ w'.heap.size
  block : ∀ k, k < w.heap.size → ¬ F k → w'.heap[k]? = w.heap[k]?
theorem Upd.refl (F : Nat → Prop) (w : World) : Upd F w w := ⟨rfl, rfl, rfl, Nat.le_refl _, fun _ _ _ => rfl⟩
theorem Upd.trans {F : Nat → Prop} {a b c : World} (h : Upd F a b) (k : Upd F b c) : Upd F a c :=
  ⟨k.os.trans h.os, k.tape.trans h.tape, k.output.trans h.output, Nat.le_trans h.size k.size, fun i hi hn => (k.block i (Nat.lt_of_lt_of_le hi h.size) hn).trans (h.block i hi hn)⟩
theorem Upd.mono {F G : Nat → Prop} {w w' : World} (h : Upd F w w') (hG : ∀ k, k < w.heap.size → F k → G k) : Upd G w w' :=
  ⟨h.os, h.tape, h.output, h.size, fun k hk hn => h.block k hk (fun hf => hn (hG k hk hf))⟩
/-- A second step, which writes of the old blocks those of F alone. -/
theorem Upd.then {F G : Nat → Prop} {a b c : World} (h : Upd F a b) (k : Upd G b c) (hG : ∀ i, i < a.heap.size → G i → F i) : Upd F a c :=
  ⟨k.os.trans h.os, k.tape.trans h.tape, k.output.trans h.output, Nat.le_trans h.size k.size, fun i hi hn => (k.block i (Nat.lt_of_lt_of_le hi h.size) (fun hg => hn (hG i hi hg))).trans (h.block i hi hn)⟩
theorem Upd.alloc {F : Nat → Prop} {a w : World} (h : Upd F a w) (o : Obj) : Upd F a (w.alloc o) :=
  h.then (G := fun _ => False) ⟨rfl, rfl, rfl, by simp, fun k hk _ => Below.heap_alloc _ _ _ hk⟩ (fun _ _ f => f.elim)
theorem Upd.drew {F : Nat → Prop} {a w : World} (h : Upd F a w) : Upd F a w.drew := ⟨h.os, h.tape, h.output, h.size, h.block⟩
theorem Upd.setCell {F : Nat → Prop} {a w : World} (h : Upd F a w) {p : Addr} (hp : p.block < a.heap.size → F p.block) (u : Value) : Upd F a (w.setCell p u) :=
  h.then (G := fun k => k = p.block) ⟨rfl, rfl, rfl, by simp [World.setCell], fun k _ hn => Below.heap_setCell _ _ _ _ hn⟩ (fun i hi e => by subst e; exact hp hi)
theorem Upd.grown {F : Nat → Prop} {a w w' : World} {row : Option Nat} (h : Upd F a w) (hg : w.grownBy w' row) (hr : ∀ k, k < a.heap.size → row = some k → F k) : Upd F a w' :=
  h.then (G := fun k => some k = row) ⟨hg.os, hg.tape, hg.output, hg.size, fun k hk hn => hg.block k hk hn⟩ (fun i hi e => hr i hi e.symm)
theorem Upd.of_below {F : Nat → Prop} {B : Nat} {w w' : World} (h : Below B w w') (hB : ∀ k, k < w.heap.size → B ≤ k → F k) : Upd F w w' :=
  ⟨h.os, h.tape, h.output, h.size, fun k hk hn => h.block k (Nat.lt_of_not_le fun hle => hn (hB k hk hle))⟩
theorem Upd.below {F : Nat → Prop} {B : Nat} {w w' : World} (h : Upd F w w') (hB : B ≤ w.heap.size) (hF : ∀ k, k < B → ¬ F k) : Below B w w' :=
  ⟨h.os, h.tape, h.output, h.size, fun k hk => h.block k (by omega) (hF k hk)⟩
theorem Upd.cell {F : Nat → Prop} {w w' : World} (h : Upd F w w') {p : Addr} {v : Value} (hc : w.cell? p = some v) (hn : ¬ F p.block) : w'.cell? p = some v := by
  rw [World.cell?_of_block (w := w) (h.block p.block (World.block_lt_of_cell? w p hc) hn)]; exact hc
theorem Upd.heap {F : Nat → Prop} {w w' : World} (h : Upd F w w') {k : Nat} {o : Obj} (hc : w.heap[k]? = some o) (hn : ¬ F k) : w'.heap[k]? = some o := by
  rw [h.block k (Array.getElem?_eq_some_iff.1 hc).1 hn]; exact hc
/-- A row that is owned, in a world that has turned elsewhere. -/
theorem ownsRow_upd {F : Nat → Prop} {w w' : World} {base : Nat} {e : TypeId} {size : Nat} {v : Value} {n : Nat} {xs : List Value} (h : w.ownsRow base e size v n xs) (hu : Upd F w w') (hn : ∀ g, v.ownBlock = some g → ¬ F g) : w'.ownsRow base e size v n xs := by
  refine ⟨h.1, ?_⟩
  rcases h.2 with hnil | ⟨g, cap, cur, rfl, hb, hgg, rest⟩
  · exact .inl hnil
  · refine .inr ⟨g, cap, cur, rfl, hb, ?_, rest⟩
    exact hu.heap hgg (hn g rfl)
theorem ownsRow_base {w : World} {base base' : Nat} {e : TypeId} {size : Nat} {v : Value} {n : Nat} {xs : List Value} (h : w.ownsRow base e size v n xs) (hb : ∀ g, v.ownBlock = some g → base' ≤ g) : w.ownsRow base' e size v n xs := by
  refine ⟨h.1, ?_⟩
  rcases h.2 with hnil | ⟨g, cap, cur, rfl, _, rest⟩
  · exact .inl hnil
  · exact .inr ⟨g, cap, cur, rfl, hb g rfl, rest⟩
/-- The cells of a block that is known whole. -/
theorem cell_of {w : World} {b : Nat} {cs : Array Value} {T : TypeId} {fr : Nat × Nat} (h : w.heap[b]? = some (.cells cs T fr)) (i : Nat) {v : Value} (hv : cs[i]? = some v) : w.cell? ⟨b, i, none⟩ = some v := by
  simp [World.cell?, h, hv]
theorem free_of {w : World} {b : Nat} {cs : Array Value} {T : TypeId} (h : w.heap[b]? = some (.cells cs T (0, 0))) (i : Nat) : w.frozen? ⟨b, i, none⟩ = false := by
  simp [World.frozen?, h]
theorem heap_set {w : World} {b : Nat} {cs : Array Value} {T : TypeId} {fr : Nat × Nat} (h : w.heap[b]? = some (.cells cs T fr)) (i : Nat) (v : Value) : (w.setCell ⟨b, i, none⟩ v).heap[b]? = some (.cells (cs.setIfInBounds i v) T fr) := by
  simp [World.setCell, Array.getElem?_modify, h]
theorem heap_set_ne {w : World} {b c : Nat} (i : Nat) (v : Value) (hne : c ≠ b) : (w.setCell ⟨b, i, none⟩ v).heap[c]? = w.heap[c]? := Below.heap_setCell _ _ _ _ hne
theorem heap_lt {w : World} {b : Nat} {o : Obj} (h : w.heap[b]? = some o) : b < w.heap.size := (Array.getElem?_eq_some_iff.1 h).1
theorem ownsRow_set {w : World} {base : Nat} {e : TypeId} {size : Nat} {v : Value} {n : Nat} {xs : List Value} (h : w.ownsRow base e size v n xs) {b i : Nat} (hn : v.ownBlock ≠ some b) (u : Value) : (w.setCell ⟨b, i, none⟩ u).ownsRow base e size v n xs :=
  ownsRow_upd (F := fun k => k = b) h (Upd.setCell (F := fun k => k = b) (p := ⟨b, i, none⟩) (Upd.refl _ _) (fun _ => rfl) u) (fun g hg e => hn (by rw [hg, e]))
theorem cell_one_at {w : World} {n : Nat} (x : Value) (t : TypeId) (hn : n = w.heap.size) : ∀ j u, [x][j]? = some u → (w.alloc (.cells #[x] t)).cell? ((⟨n, 0, none⟩ : Addr).add j) = some u := by
  subst hn; exact cell_one_new w x t
end Go.Proofs.Ytigbfgmgdfnhcaa
namespace Go.Proofs.Ytigbfgmgdfnhcaa
open Go.RowKit
/-- A row with some of its cells written anew. -/
def spl : Array Value → Nat → List Value → Array Value
  | C, _, [] => C
  | C, o, v :: r => spl (C.setIfInBounds o v) (o + 1) r
theorem heap_setCells {b : Nat} {T : TypeId} : ∀ (vs : List Value) (o : Nat) (w : World) (C : Array Value), w.heap[b]? = some (.cells C T (0, 0)) → (w.setCells b o vs).heap[b]? = some (.cells (spl C o vs) T (0, 0)) ∧ Upd (fun k => k = b) w (w.setCells b o vs) ∧ (w.setCells b o vs).heap.size = w.heap.size
  | [], o, w, C, h => ⟨h, Upd.refl _ _, rfl⟩
  | v :: r, o, w, C, h => by
    obtain ⟨h1, h2, h3⟩ := heap_setCells r (o + 1) (w.setCell ⟨b, o, none⟩ v) _ (heap_set h o v)
    exact ⟨h1, ((Upd.refl (fun k => k = b) w).setCell (p := ⟨b, o, none⟩) (fun _ => rfl) v).then h2 (fun _ _ h => h), h3.trans (by simp [World.setCell])⟩
theorem there_of_block {w : World} {b : Nat} {C : Array Value} {T : TypeId} (h : w.heap[b]? = some (.cells C T (0, 0))) {o n : Nat} (hn : o + n ≤ C.size) : w.there b o n := by
  intro j hj
  refine ⟨?_, free_of h _⟩
  rw [cell_of_row w b (o + j) C T (0, 0) h, Array.getElem?_eq_getElem (by omega)]
  rfl
section
variable {P : Program} {ops : Array Oper} {rest : List Oper} {op : Oper} {a : Act} {w : World} {K : Act → World → Prop} {Q : Exit → Act → World → Prop}
theorem run_store_any (b o : Nat) (ty : TypeId) (v : Value) (ht : w.there b o v.cells.size) (hi : (P.info? ty).map (·.size) = some v.cells.size) (h1 : v.cells.toList.all (·.oneCell') = true) :
    (storeVar ty ⟨b, o, none⟩ v).run P w = .ok () (w.setCells b o v.cells.toList) := run_storeVar_mid (P := P) w b o ty v.cells ht hi (by simpa using h1)
theorem wp_store_blk (ty : TypeId) (x y : Operand) (ho : op.op = .store ty x y) (b o : Nat) (hx : a.eval x = .pointer (some ⟨b, o, none⟩)) (v : Value) (hy : a.eval y = v) (C D : Array Value) (T : TypeId)
    (hb : w.heap[b]? = some (.cells C T (0, 0))) (hsz : o + v.cells.size ≤ C.size) (hi : (P.info? ty).map (·.size) = some v.cells.size) (h1 : v.cells.toList.all (·.oneCell') = true) (hD : spl C o v.cells.toList = D)
    (h : ∀ w', w'.heap[b]? = some (.cells D T (0, 0)) → Upd (fun k => k = b) w w' → w'.heap.size = w.heap.size → K (a.put op.dst undef) w') : op.wp P a w K Q := by
  subst hD hy
  unfold Oper.wp execOp
  simp only [ho, hx, Instr.storeAt, Instr.sureAddr, Sem.run_bind, Sem.run_pure, Result.andThen_ok, run_store_any b o ty (a.eval y) (there_of_block hb hsz) hi h1]
  obtain ⟨g1, g2, g3⟩ := heap_setCells (a.eval y).cells.toList o w C hb
  exact h _ g1 g2 g3
theorem wpList_store_blk (hgd : op.guard = none) (ty : TypeId) (x y : Operand) (ho : op.op = .store ty x y) (b o : Nat) (hx : a.eval x = .pointer (some ⟨b, o, none⟩)) (v : Value) (hy : a.eval y = v) (C D : Array Value) (T : TypeId)
    (hb : w.heap[b]? = some (.cells C T (0, 0))) (hsz : o + v.cells.size ≤ C.size) (hi : (P.info? ty).map (·.size) = some v.cells.size) (h1 : v.cells.toList.all (·.oneCell') = true) (hD : spl C o v.cells.toList = D)
    (h : ∀ w', w'.heap[b]? = some (.cells D T (0, 0)) → Upd (fun k => k = b) w w' → w'.heap.size = w.heap.size → wpList P ops Q rest (a.put op.dst undef) w') : wpList P ops Q (op :: rest) a w :=
  wpList_plain hgd fun _ hK => wp_store_blk ty x y ho b o hx v hy C D T hb hsz hi h1 hD fun w' g1 g2 g3 => hK _ _ (h w' g1 g2 g3)
theorem wp_load_blk (ty : TypeId) (x : Operand) (ho : op.op = .load ty x) (b o : Nat) (hx : a.eval x = .pointer (some ⟨b, o, none⟩)) (C D : Array Value) (T : TypeId) (fr : Nat × Nat) (d : TypeDesc)
    (hb : w.heap[b]? = some (.cells C T fr)) (hu : P.underlying ty = some d) (hd : d.isRow = true) (hD : C.extract o (o + D.size) = D) (hi : (P.info? ty).map (·.size) = some D.size)
    (h : K (a.put op.dst (.agg D)) w) : op.wp P a w K Q := by
  have hr := World.rangeAt_of_block hb o D.size
  rw [hD] at hr
  refine wp_load_mid ty x ho b o hx D.toList d hr hu hd (by simpa using hi) ?_
  simpa using h
theorem wpList_load_blk (hgd : op.guard = none) (ty : TypeId) (x : Operand) (ho : op.op = .load ty x) (b o : Nat) (hx : a.eval x = .pointer (some ⟨b, o, none⟩)) (C D : Array Value) (T : TypeId) (fr : Nat × Nat) (d : TypeDesc)
    (hb : w.heap[b]? = some (.cells C T fr)) (hu : P.underlying ty = some d) (hd : d.isRow = true) (hD : C.extract o (o + D.size) = D) (hi : (P.info? ty).map (·.size) = some D.size)
    (h : wpList P ops Q rest (a.put op.dst (.agg D)) w) : wpList P ops Q (op :: rest) a w :=
  wpList_plain hgd fun _ hK => wp_load_blk ty x ho b o hx C D T fr d hb hu hd hD hi (hK _ _ h)
/-- Two results, the first one a struct in a block. -/
theorem results_blk_tmp {fn : Func} {p u : Tmp} {ty : TypeId} (h : fn.results = #[.cell p ty, .tmp u]) (tmps : Array Value) (w : World) (g : Nat) (t : TypeId) (cs : Array Value) (fr : Nat × Nat) (d : TypeDesc)
    (hp : tmps.getD p undef = .pointer (some ⟨g, 0, none⟩)) (hg : w.heap[g]? = some (.cells cs t fr))
    (hu : P.underlying ty = some d) (hd : (match d with | .struct _ | .array _ _ => true | _ => false) = true) (hi : (P.info? ty).map (·.size) = some cs.size) :
    (results fn tmps).run P w = .ok (.tuple #[.agg cs, tmps.getD u undef]) w := by
  rw [results_cell_tmp h, hp]
  simp [asAddr, run_loadVar_row w g t ty cs fr d hg hu hd hi, Result.andThen]
theorem false_upd2 {w w' : World} (h : Below w.heap.size w w') : Upd (fun _ => False) w w' := Upd.of_below h (fun _ h1 h2 => by omega)
theorem heap_old2 {w : World} {b : Nat} {o : Obj} (h : w.heap[b]? = some o) (o2 : Obj) : (w.alloc o2).heap[b]? = some o := by
  rw [Below.heap_alloc _ _ _ (heap_lt h)]; exact h
theorem exec_load_blk (ty : TypeId) (x : Operand) (ho : op.op = .load ty x)
    (g : Nat) (hx : a.eval x = .pointer (some ⟨g, 0, none⟩)) (t : TypeId) (cs : Array Value) (fr : Nat × Nat) (d : TypeDesc) (hg : w.heap[g]? = some (.cells cs t fr))
    (hu : P.underlying ty = some d) (hd : (match d with | .struct _ | .array _ _ => true | _ => false) = true) (hi : (P.info? ty).map (·.size) = some cs.size) : (execOp a.eval op).run P w = .ok (.value (.agg cs)) w := by
  unfold execOp
  simp only [ho, hx, Instr.loadAt, Instr.sureAddr, Sem.run_bind, Sem.run_pure, Result.andThen_ok, run_loadVar_row w g t ty cs fr d hg hu hd hi]
end
end Go.Proofs.Ytigbfgmgdfnhcaa
namespace Go.Proofs.Ytigbfgmgdfnhcaa
open Go.RowKit
def Stop (p : Prop) : Prop := p
section
variable {P : Program} {ops : Array Oper} {rest : List Oper} {o : Oper} {a : Act} {w : World} {Q : Exit → Act → World → Prop}
theorem stopSt (ty : TypeId) (x y : Operand) (ho : o.op = .store ty x y) (h : Stop (wpList P ops Q (o :: rest) a w)) : wpList P ops Q (o :: rest) a w := h
theorem stopLd (ty : TypeId) (x : Operand) (ho : o.op = .load ty x) (h : Stop (wpList P ops Q (o :: rest) a w)) : wpList P ops Q (o :: rest) a w := h
theorem stopBS (ty : TypeId) (x) (y) (ho : o.op = .buildSlice ty x y) (h : Stop (wpList P ops Q (o :: rest) a w)) : wpList P ops Q (o :: rest) a w := h
end
end Go.Proofs.Ytigbfgmgdfnhcaa
namespace Go.Proofs.Ytigbfgmgdfnhcaa
open Go.RowKit
section
variable {P : Program} {ops : Array Oper} {Q : Exit → Act → World → Prop} {md : Region.Mode} {S : World → Prop} {G : Nat → Bool}
/-- Whatever order is picked from here on; behind each operation of G the condition S holds. -/
def wpAnyG (P : Program) (md : Region.Mode) (ops : Array Oper) (Q : Exit → Act → World → Prop) (S : World → Prop) (G : Nat → Bool) : Nat → Array Bool → Act → World → Prop
  | 0, listed, a, w => Region.ready md ops listed = [] ∧ Q .normal a w
  | fuel + 1, listed, a, w =>
    (Region.ready md ops listed = [] → Q .normal a w) ∧
    ∀ i ∈ Region.ready md ops listed, wpOp P ops Q i (fun a' w' => (G i = true → S w') ∧ wpAnyG P md ops Q S G fuel (listed.setIfInBounds i true) a' w') a w
theorem wpAny_of_G : ∀ (fuel : Nat) (listed : Array Bool) (a : Act) (w : World), wpAnyG P md ops Q S G fuel listed a w → wpAny P md ops Q fuel listed a w
  | 0, _, _, _, h => h
  | fuel + 1, _, _, _, h => ⟨h.1, fun i hi => wpOp_mono (fun a' w' h' => wpAny_of_G fuel _ a' w' h'.2) (h.2 i hi)⟩
/-- Those that come behind i, through however many others. -/
def reachB (md : Region.Mode) (ops : Array Oper) (i : Nat) : List Nat :=
  (List.range ops.size).foldl (fun B j => match ops[j]? with
    | some oj => if oj.after.any (fun e => Region.binds md e && (e.on == i || B.contains e.on)) then j :: B else B
    | none => B) []
def closedB (md : Region.Mode) (ops : Array Oper) (listed : Array Bool) (i : Nat) (B : List Nat) : Bool :=
  B.all fun j => !listed.getD j true && match ops[j]? with
    | some oj => oj.after.any (fun e => Region.binds md e && (e.on == i || B.contains e.on))
    | none => false
/-- Nobody who could come before i touches its temporaries, and each of them is of G. -/
def freeG (md : Region.Mode) (ops : Array Oper) (G : Nat → Bool) (listed : Array Bool) (i : Nat) : Bool :=
  closedB md ops listed i (reachB md ops i) && match ops[i]? with
  | none => false
  | some oi => (List.range ops.size).all fun j => j == i || listed.getD j true || (reachB md ops i).contains j || match ops[j]? with
      | some oj => oi.apart ops oj && G j
      | none => true
theorem freeG_spec {i j : Nat} {oi : Oper} {listed : Array Bool} (hi : ops[i]? = some oi) (h : freeG md ops G listed i = true) {oj : Oper} (hj : ops[j]? = some oj) (hne : j ≠ i) (hun : listed.getD j true = false)
    (hno : j ∉ reachB md ops i) : oi.apart ops oj = true ∧ G j = true := by
  simp only [freeG, hi, Bool.and_eq_true, List.all_eq_true, List.mem_range] at h
  have h1 := h.2 j (Array.getElem?_eq_some_iff.1 hj).1
  simpa [hj, hne, hun, hno] using h1
theorem wpAnyG_first {i : Nat} {oi : Oper} {v : Value} (B : List Nat) (hi : ops[i]? = some oi) (hsel : ∀ (j : Nat) (o : Oper) cs b, ops[j]? = some o → o.op ≠ .select cs b)
    (hQ : ∀ c a w, Q (.panic c) (a.put oi.dst v) w → Q (.panic c) a w) :
    ∀ (fuel : Nat) (listed : Array Bool) (a : Act) (w : World),
      closedB md ops listed i B = true →
      (∀ j oj, ops[j]? = some oj → j ≠ i → listed.getD j true = false → j ∉ B → oi.apart ops oj = true ∧ G j = true) →
      i ∈ Region.ready md ops listed → YieldsIf P ops S oi v a → S w →
      wpAnyG P md ops Q S G fuel (listed.setIfInBounds i true) (a.put oi.dst v) w → wpAnyG P md ops Q S G (fuel + 1) listed a w := by
  intro fuel
  induction fuel with
  | zero =>
    intro listed a w _ _ hr hy hS H
    refine ⟨fun h => (by rw [h] at hr; cases hr), fun j hj => ?_⟩
    by_cases hji : j = i
    · subst hji; exact hy.wpOp hi hS ⟨fun _ => hS, H⟩
    · have := ready_mono hj hji
      rw [H.1] at this
      cases this
  | succ fuel ih =>
    intro listed a w hcl hfree hr hy hS H
    refine ⟨fun h => (by rw [h] at hr; cases hr), fun j hj => ?_⟩
    by_cases hji : j = i
    · subst hji; exact hy.wpOp hi hS ⟨fun _ => hS, H⟩
    · have h1 := H.2 j (ready_mono hj hji)
      obtain ⟨hjun, oj, hoj, hall⟩ := mem_ready.1 hj
      have hiun := (mem_ready.1 hr).1
      have hcl' := hcl
      simp only [closedB, List.all_eq_true, Bool.and_eq_true, Bool.not_eq_true'] at hcl'
      have hnot : j ∉ B := fun hjB => by
        have h2 := (hcl' j hjB).2
        simp only [hoj] at h2
        obtain ⟨e, he, hb⟩ := Array.any_eq_true'.1 h2
        simp only [Bool.and_eq_true, Bool.or_eq_true, beq_iff_eq, List.contains_iff_mem] at hb
        have h3 := hall e he hb.1
        have h4 : listed.getD e.on true = false := by
          rcases hb.2 with h | h
          · rw [h]; exact hiun
          · exact (hcl' e.on h).1
        rcases Nat.lt_or_ge e.on listed.size with h' | h'
        · simp [h'] at h3 h4; rw [h4] at h3; cases h3
        · simp [Array.getElem?_eq_none h'] at h3
      have hap := hfree j oj hoj hji hjun hnot
      have h2 := wpOp_putIf hoj hap.1 (fun cs b => hsel i oi cs b hi) (fun cs b => hsel j oj cs b hoj) hQ hy h1
      refine wpOp_mono (fun a' w' h3 => ?_) h2
      refine ⟨h3.2.1, ih (listed.setIfInBounds j true) a' w' ?_ ?_ (ready_mono hr (Ne.symm hji)) h3.1 (h3.2.1 hap.2) ?_⟩
      · simp only [closedB, List.all_eq_true, Bool.and_eq_true, Bool.not_eq_true']
        intro k hk
        refine ⟨?_, (hcl' k hk).2⟩
        have hjk : j ≠ k := fun e => hnot (e ▸ hk)
        rw [getD_set_ne true hjk]; exact (hcl' k hk).1
      · intro k ok hk hki hun hno
        refine hfree k ok hk hki ?_ hno
        by_cases hjk : j = k
        · subst hjk; exact hjun
        · rw [getD_set_ne true hjk] at hun; exact hun
      · rw [Array.setIfInBounds_comm _ _ hji]
        exact h3.2.2
/-- The order: (i, true) only reads and may be taken now; (i, false) is the one that comes up. -/
def seqB (md : Region.Mode) (ops : Array Oper) (G : Nat → Bool) : List (Nat × Bool) → Array Bool → Bool
  | [], listed => (Region.ready md ops listed).isEmpty
  | (i, true) :: l, listed => (Region.ready md ops listed).contains i && freeG md ops G listed i && seqB md ops G l (listed.setIfInBounds i true)
  | (i, false) :: l, listed => (Region.ready md ops listed == [i]) && seqB md ops G l (listed.setIfInBounds i true)
/-- The walk in that order. -/
def wpSeq (P : Program) (ops : Array Oper) (Q : Exit → Act → World → Prop) (S : World → Prop) (G : Nat → Bool) : List (Nat × Bool) → Act → World → Prop
  | [], a, w => Q .normal a w
  | (i, true) :: l, a, w => ∃ o v, ops[i]? = some o ∧ YieldsIf P ops S o v a ∧ S w ∧ wpSeq P ops Q S G l (a.put o.dst v) w
  | (i, false) :: l, a, w => wpOp P ops Q i (fun a' w' => (G i = true → S w') ∧ wpSeq P ops Q S G l a' w') a w
theorem wpAnyG_of_seq (hsel : Region.noSelect ops = true) (hQ : ∀ c a d v w, Q (.panic c) (Act.put a d v) w → Q (.panic c) a w) :
    ∀ (l : List (Nat × Bool)) (listed : Array Bool) (a : Act) (w : World), seqB md ops G l listed = true → wpSeq P ops Q S G l a w → wpAnyG P md ops Q S G l.length listed a w
  | [], listed, a, w, hB, h => ⟨by simpa [seqB] using hB, h⟩
  | (i, true) :: l, listed, a, w, hB, h => by
    simp only [seqB, Bool.and_eq_true] at hB
    obtain ⟨⟨hr, hf⟩, hB'⟩ := hB
    obtain ⟨o, v, ho, hy, hS, hk⟩ := h
    have hf' := hf
    simp only [freeG, Bool.and_eq_true] at hf'
    exact wpAnyG_first (reachB md ops i) ho (Region.noSelect_spec hsel) (fun c a w h => hQ c a _ _ w h) l.length listed a w
      hf'.1 (fun j oj hj hne hun hno => freeG_spec ho hf hj hne hun hno) (by simpa using hr) hy hS
      (wpAnyG_of_seq hsel hQ l _ _ _ hB' hk)
  | (i, false) :: l, listed, a, w, hB, h => by
    simp only [seqB, Bool.and_eq_true, beq_iff_eq] at hB
    obtain ⟨hr, hB'⟩ := hB
    refine ⟨fun h0 => (by rw [hr] at h0; cases h0), fun j hj => ?_⟩
    rw [hr] at hj
    obtain rfl : j = i := by simpa using hj
    exact wpOp_mono (fun a' w' h' => ⟨h'.1, wpAnyG_of_seq hsel hQ l _ _ _ hB' h'.2⟩) h
theorem wp_region_seq {id : Nat} {l : List Oper} {a : Act} {w : World} (S : World → Prop) (G : Nat → Bool) (s : List (Nat × Bool)) (hm : P.follows .mixedOrders = true)
    (hB : (Region.noSelect l.toArray && s.length == l.toArray.size && seqB .any l.toArray G s (Array.replicate l.toArray.size false)) = true) (hQ : ∀ c a d v w, Q (.panic c) (Act.put a d v) w → Q (.panic c) a w)
    (h : wpSeq P l.toArray Q S G s a w.drew) : (Code.region id l.toArray true).wp P Q a w := by
  simp only [Bool.and_eq_true, beq_iff_eq] at hB
  obtain ⟨⟨h1, h2⟩, h3⟩ := hB
  refine wp_region_any hm (wpAny_of_G (S := S) (G := G) _ _ _ _ ?_)
  have h4 := wpAnyG_of_seq h1 hQ s _ _ _ h3 h
  rw [h2] at h4
  exact h4
theorem seq_val {i : Nat} {s : List (Nat × Bool)} {a : Act} {w : World} {o : Oper} {v : Value} (ho : ops[i]? = some o) (hw : Region.wanted o (yielded ops a.tmps) = true) (hr : ∀ w', S w' → (execOp a.eval o).run P w' = .ok (.value v) w')
    (hS : S w) (hk : wpSeq P ops Q S G s (a.put o.dst v) w) : wpSeq P ops Q S G ((i, true) :: s) a w := ⟨o, v, ho, .inl ⟨hw, hr⟩, hS, hk⟩
theorem seq_skip {i : Nat} {s : List (Nat × Bool)} {a : Act} {w : World} {o : Oper} (ho : ops[i]? = some o) (hw : Region.wanted o (yielded ops a.tmps) = false)
    (hS : S w) (hk : wpSeq P ops Q S G s (a.put o.dst undef) w) : wpSeq P ops Q S G ((i, true) :: s) a w := ⟨o, undef, ho, .inr ⟨hw, rfl⟩, hS, hk⟩
theorem seq_loud {i : Nat} {s : List (Nat × Bool)} {a : Act} {w : World} {o : Oper} (ho : ops[i]? = some o)
    (h : ∀ K : Act → World → Prop, (∀ a w, (G i = true → S w) → wpSeq P ops Q S G s a w → K a w) → if Region.wanted o (yielded ops a.tmps) = true then Oper.wp P o a w K Q else K (a.put o.dst undef) w) :
    wpSeq P ops Q S G ((i, false) :: s) a w := by
  have := h (fun a' w' => (G i = true → S w') ∧ wpSeq P ops Q S G s a' w') (fun a' w' h1 h2 => ⟨h1, h2⟩)
  show wpOp P ops Q i _ a w
  unfold wpOp
  simp only [ho]
  split
  · rename_i hw; rw [if_pos hw] at this; exact .inl this
  · rename_i hw; rw [if_neg hw] at this; exact this
theorem seq_call {i : Nat} {s : List (Nat × Bool)} {a : Act} {w : World} {o : Oper} {f : FuncId} {args : Array Value} (C : Value → World → Prop) (ho : ops[i]? = some o) (hw : Region.wanted o (yielded ops a.tmps) = true)
    (hr : (execOp a.eval o).run P w = .ok (.enter f args) w) (hc : Calls P f args w fun e w' => ∃ v, e = .returned v ∧ C v w') (hk : ∀ v w', C v w' → (G i = true → S w') ∧ wpSeq P ops Q S G s (a.put o.dst v) w') :
    wpSeq P ops Q S G ((i, false) :: s) a w := by
  show wpOp P ops Q i _ a w
  unfold wpOp
  simp only [ho]
  rw [if_pos hw]
  refine .inl ?_
  unfold Oper.wp
  rw [hr, Oper.upon_enter]
  refine hc.mono ?_
  rintro e w' ⟨v, rfl, hv⟩
  exact hk v w' hv
theorem ops_drop {i : Nat} {o : Oper} {r : List Oper} (h : ops.toList.drop i = o :: r) : ops[i]? = some o := by
  have := congrArg List.head? h
  rw [List.head?_drop] at this
  simpa using this
theorem seq_val2 {i : Nat} {s : List (Nat × Bool)} {a : Act} {w : World} {o : Oper} {r : List Oper} {v : Value} (ho : ops.toList.drop i = o :: r) (hw : Region.wanted o (yielded ops a.tmps) = true) (hr : ∀ w', S w' → (execOp a.eval o).run P w' = .ok (.value v) w')
    (hS : S w) (hk : wpSeq P ops Q S G s (a.put o.dst v) w) : wpSeq P ops Q S G ((i, true) :: s) a w := seq_val (ops_drop ho) hw hr hS hk
theorem seq_skip2 {i : Nat} {s : List (Nat × Bool)} {a : Act} {w : World} {o : Oper} {r : List Oper} (ho : ops.toList.drop i = o :: r) (hw : Region.wanted o (yielded ops a.tmps) = false)
    (hS : S w) (hk : wpSeq P ops Q S G s (a.put o.dst undef) w) : wpSeq P ops Q S G ((i, true) :: s) a w := seq_skip (ops_drop ho) hw hS hk
theorem seq_loud2 {i : Nat} {s : List (Nat × Bool)} {a : Act} {w : World} {o : Oper} {r : List Oper} (ho : ops.toList.drop i = o :: r)
    (h : ∀ K : Act → World → Prop, (∀ a w, (G i = true → S w) → wpSeq P ops Q S G s a w → K a w) → if Region.wanted o (yielded ops a.tmps) = true then Oper.wp P o a w K Q else K (a.put o.dst undef) w) :
    wpSeq P ops Q S G ((i, false) :: s) a w := seq_loud (ops_drop ho) h
theorem seq_call2 {i : Nat} {s : List (Nat × Bool)} {a : Act} {w : World} {o : Oper} {r : List Oper} {f : FuncId} {args : Array Value} (C : Value → World → Prop) (ho : ops.toList.drop i = o :: r) (hw : Region.wanted o (yielded ops a.tmps) = true)
    (hr : (execOp a.eval o).run P w = .ok (.enter f args) w) (hc : Calls P f args w fun e w' => ∃ v, e = .returned v ∧ C v w') (hk : ∀ v w', C v w' → (G i = true → S w') ∧ wpSeq P ops Q S G s (a.put o.dst v) w') :
    wpSeq P ops Q S G ((i, false) :: s) a w := seq_call C (ops_drop ho) hw hr hc hk
theorem seq_nil {a : Act} {w : World} (h : Q .normal a w) : wpSeq P ops Q S G [] a w := h
end
end Go.Proofs.Ytigbfgmgdfnhcaa
