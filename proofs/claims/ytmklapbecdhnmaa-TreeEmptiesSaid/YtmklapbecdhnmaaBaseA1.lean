/- Lemmas that the law's proof stands on, part 1: Mem, Blk, App, Trow, Td, Shelf, Plain, Stop, Ghost. No condition. -/
import Derived.Test.YtmklapbecdhnmaaBaseA0
import Derived.Deep.MidRow
import Derived.Deep.RegionWith
import Derived.Ground.Names2Prog
import Derived.Laws.AppendOwn
import Derived.Laws.ResultCell
import Derived.Laws.Rows
import Derived.Lib.Hide
import Derived.Maps.AppendAt
import Derived.OwnWalk
import Derived.Shelf.Slices.Cells
import Derived.Shelf.Slices.Clone
import Derived.Shelf.Slices.Delete
import Derived.Shelf.Spec.SlicesInsert
import Derived.Shelf.Spec.SlicesInsertGrow
import Derived.Test.YtmklapbecdhnmaaProg
import Derived.WalkKit
set_option linter.all false
set_option linter.unusedVariables false
set_option linter.unusedSimpArgs false
namespace Go.Proofs.Ytmklapbecdhnmaa
open Go.RowKit
/-- From w to w2 new blocks may have come, and of the old ones those of F may have turned. -/
structure Upd (F : Nat → Prop) (w w' : World) : Prop where
  os : w'.os = w.os
  tape : w'.tape = w.tape
  output : w'.output = w.output
  size : w.heap.size ≤ w'.heap.size
  block : ∀ k, k < w.heap.size → ¬ F k → w'.heap[k]? = w.heap[k]?
theorem Upd.refl (F : Nat → Prop) (w : World) : Upd F w w := ⟨rfl, rfl, rfl, Nat.le_refl _, fun _ _ _ => rfl⟩
theorem Upd.trans {F : Nat → Prop} {a b c : World} (h : Upd F a b) (k : Upd F b c) : Upd F a c :=
  ⟨k.os.trans h.os, k.tape.trans h.tape, k.output.trans h.output, Nat.le_trans h.size k.size, fun i hi hn => (k.block i (Nat.lt_of_lt_of_le hi h.size) hn).trans (h.block i hi hn)⟩
theorem Upd.mono {F G : Nat → Prop} {w w' : World} (h : Upd F w w') (hG : ∀ k, k < w.heap.size → F k → G k) : Upd G w w' :=
  ⟨h.os, h.tape, h.output, h.size, fun k hk hn => h.block k hk (fun hf => hn (hG k hk hf))⟩
/-- A second step, which writes of the old blocks those of F alone. -/
theorem Upd.then {F G : Nat → Prop} {a b c : World} (h : Upd F a b) (k : Upd G b c) (hG : ∀ i, i < a.heap.size → G i → F i) : Upd F a c :=
  ⟨k.os.trans h.os, k.tape.trans h.tape, k.output.trans h.output, Nat.le_trans h.size k.size, fun i hi hn => (k.block i (Nat.lt_of_lt_of_le hi h.size) (fun hg => hn (hG i hi hg))).trans (h.block i hi hn)⟩
theorem Upd.alloc {F : Nat → Prop} {a w : World} (h : Upd F a w) (o : Obj) : Upd F a (w.alloc o) :=
  h.then (G := fun _ => False) ⟨rfl, rfl, rfl, by simp, fun k hk _ => Below.heap_alloc _ _ _ hk⟩ (fun _ _ f => f.elim)
theorem Upd.drew {F : Nat → Prop} {a w : World} (h : Upd F a w) : Upd F a w.drew := ⟨h.os, h.tape, h.output, h.size, h.block⟩
theorem Upd.setCell {F : Nat → Prop} {a w : World} (h : Upd F a w) {p : Addr} (hp : p.block < a.heap.size → F p.block) (u : Value) : Upd F a (w.setCell p u) :=
  h.then (G := fun k => k = p.block) ⟨rfl, rfl, rfl, by simp [World.setCell], fun k _ hn => Below.heap_setCell _ _ _ _ hn⟩ (fun i hi e => by subst e; exact hp hi)
theorem Upd.grown {F : Nat → Prop} {a w w' : World} {row : Option Nat} (h : Upd F a w) (hg : w.grownBy w' row) (hr : ∀ k, k < a.heap.size → row = some k → F k) : Upd F a w' :=
  h.then (G := fun k => some k = row) ⟨hg.os, hg.tape, hg.output, hg.size, fun k hk hn => hg.block k hk hn⟩ (fun i hi e => hr i hi e.symm)
theorem Upd.of_below {F : Nat → Prop} {B : Nat} {w w' : World} (h : Below B w w') (hB : ∀ k, k < w.heap.size → B ≤ k → F k) : Upd F w w' :=
  ⟨h.os, h.tape, h.output, h.size, fun k hk hn => h.block k (Nat.lt_of_not_le fun hle => hn (hB k hk hle))⟩
theorem Upd.below {F : Nat → Prop} {B : Nat} {w w' : World} (h : Upd F w w') (hB : B ≤ w.heap.size) (hF : ∀ k, k < B → ¬ F k) : Below B w w' :=
  ⟨h.os, h.tape, h.output, h.size, fun k hk => h.block k (by omega) (hF k hk)⟩
theorem Upd.cell {F : Nat → Prop} {w w' : World} (h : Upd F w w') {p : Addr} {v : Value} (hc : w.cell? p = some v) (hn : ¬ F p.block) : w'.cell? p = some v := by
  rw [World.cell?_of_block (w := w) (h.block p.block (World.block_lt_of_cell? w p hc) hn)]; exact hc
theorem Upd.heap {F : Nat → Prop} {w w' : World} (h : Upd F w w') {k : Nat} {o : Obj} (hc : w.heap[k]? = some o) (hn : ¬ F k) : w'.heap[k]? = some o := by
  rw [h.block k (Array.getElem?_eq_some_iff.1 hc).1 hn]; exact hc
/-- A row that is owned, in a world that has turned elsewhere. -/
theorem ownsRow_upd {F : Nat → Prop} {w w' : World} {base : Nat} {e : TypeId} {size : Nat} {v : Value} {n : Nat} {xs : List Value} (h : w.ownsRow base e size v n xs) (hu : Upd F w w') (hn : ∀ g, v.ownBlock = some g → ¬ F g) : w'.ownsRow base e size v n xs := by
  refine ⟨h.1, ?_⟩
  rcases h.2 with hnil | ⟨g, cap, cur, rfl, hb, hgg, rest⟩
  · exact .inl hnil
  · refine .inr ⟨g, cap, cur, rfl, hb, ?_, rest⟩
    exact hu.heap hgg (hn g rfl)
/-- The cells of a block that is known whole. -/
theorem cell_of {w : World} {b : Nat} {cs : Array Value} {T : TypeId} {fr : Nat × Nat} (h : w.heap[b]? = some (.cells cs T fr)) (i : Nat) {v : Value} (hv : cs[i]? = some v) : w.cell? ⟨b, i, none⟩ = some v := by
  simp [World.cell?, h, hv]
theorem free_of {w : World} {b : Nat} {cs : Array Value} {T : TypeId} (h : w.heap[b]? = some (.cells cs T (0, 0))) (i : Nat) : w.frozen? ⟨b, i, none⟩ = false := by
  simp [World.frozen?, h]
theorem heap_set {w : World} {b : Nat} {cs : Array Value} {T : TypeId} {fr : Nat × Nat} (h : w.heap[b]? = some (.cells cs T fr)) (i : Nat) (v : Value) : (w.setCell ⟨b, i, none⟩ v).heap[b]? = some (.cells (cs.setIfInBounds i v) T fr) := by
  simp [World.setCell, Array.getElem?_modify, h]
theorem heap_set_ne {w : World} {b c : Nat} (i : Nat) (v : Value) (hne : c ≠ b) : (w.setCell ⟨b, i, none⟩ v).heap[c]? = w.heap[c]? := Below.heap_setCell _ _ _ _ hne
theorem heap_lt {w : World} {b : Nat} {o : Obj} (h : w.heap[b]? = some o) : b < w.heap.size := (Array.getElem?_eq_some_iff.1 h).1
end Go.Proofs.Ytmklapbecdhnmaa
namespace Go.Proofs.Ytmklapbecdhnmaa
open Go.RowKit
/-- A row with some of its cells written anew. -/
def spl : Array Value → Nat → List Value → Array Value
  | C, _, [] => C
  | C, o, v :: r => spl (C.setIfInBounds o v) (o + 1) r
theorem heap_setCells {b : Nat} {T : TypeId} : ∀ (vs : List Value) (o : Nat) (w : World) (C : Array Value), w.heap[b]? = some (.cells C T (0, 0)) → (w.setCells b o vs).heap[b]? = some (.cells (spl C o vs) T (0, 0)) ∧ Upd (fun k => k = b) w (w.setCells b o vs) ∧ (w.setCells b o vs).heap.size = w.heap.size
  | [], o, w, C, h => ⟨h, Upd.refl _ _, rfl⟩
  | v :: r, o, w, C, h => by
    obtain ⟨h1, h2, h3⟩ := heap_setCells r (o + 1) (w.setCell ⟨b, o, none⟩ v) _ (heap_set h o v)
    exact ⟨h1, ((Upd.refl (fun k => k = b) w).setCell (p := ⟨b, o, none⟩) (fun _ => rfl) v).then h2 (fun _ _ h => h), h3.trans (by simp [World.setCell])⟩
theorem there_of_block {w : World} {b : Nat} {C : Array Value} {T : TypeId} (h : w.heap[b]? = some (.cells C T (0, 0))) {o n : Nat} (hn : o + n ≤ C.size) : w.there b o n := by
  intro j hj
  refine ⟨?_, free_of h _⟩
  rw [cell_of_row w b (o + j) C T (0, 0) h, Array.getElem?_eq_getElem (by omega)]
  rfl
section
variable {P : Program} {ops : Array Oper} {rest : List Oper} {op : Oper} {a : Act} {w : World} {K : Act → World → Prop} {Q : Exit → Act → World → Prop}
theorem run_store_any (b o : Nat) (ty : TypeId) (v : Value) (ht : w.there b o v.cells.size) (hi : (P.info? ty).map (·.size) = some v.cells.size) (h1 : v.cells.toList.all (·.oneCell') = true) :
    (storeVar ty ⟨b, o, none⟩ v).run P w = .ok () (w.setCells b o v.cells.toList) := run_storeVar_mid (P := P) w b o ty v.cells ht hi (by simpa using h1)
theorem wp_store_blk (ty : TypeId) (x y : Operand) (ho : op.op = .store ty x y) (b o : Nat) (hx : a.eval x = .pointer (some ⟨b, o, none⟩)) (v : Value) (hy : a.eval y = v) (C D : Array Value) (T : TypeId)
    (hb : w.heap[b]? = some (.cells C T (0, 0))) (hsz : o + v.cells.size ≤ C.size) (hi : (P.info? ty).map (·.size) = some v.cells.size) (h1 : v.cells.toList.all (·.oneCell') = true) (hD : spl C o v.cells.toList = D)
    (h : ∀ w', w'.heap[b]? = some (.cells D T (0, 0)) → Upd (fun k => k = b) w w' → w'.heap.size = w.heap.size → K (a.put op.dst undef) w') : op.wp P a w K Q := by
  subst hD hy
  unfold Oper.wp execOp
  simp only [ho, hx, Instr.storeAt, Instr.sureAddr, Sem.run_bind, Sem.run_pure, Result.andThen_ok, run_store_any b o ty (a.eval y) (there_of_block hb hsz) hi h1]
  obtain ⟨g1, g2, g3⟩ := heap_setCells (a.eval y).cells.toList o w C hb
  exact h _ g1 g2 g3
theorem wpList_store_blk (hgd : op.guard = none) (ty : TypeId) (x y : Operand) (ho : op.op = .store ty x y) (b o : Nat) (hx : a.eval x = .pointer (some ⟨b, o, none⟩)) (v : Value) (hy : a.eval y = v) (C D : Array Value) (T : TypeId)
    (hb : w.heap[b]? = some (.cells C T (0, 0))) (hsz : o + v.cells.size ≤ C.size) (hi : (P.info? ty).map (·.size) = some v.cells.size) (h1 : v.cells.toList.all (·.oneCell') = true) (hD : spl C o v.cells.toList = D)
    (h : ∀ w', w'.heap[b]? = some (.cells D T (0, 0)) → Upd (fun k => k = b) w w' → w'.heap.size = w.heap.size → wpList P ops Q rest (a.put op.dst undef) w') : wpList P ops Q (op :: rest) a w :=
  wpList_plain hgd fun _ hK => wp_store_blk ty x y ho b o hx v hy C D T hb hsz hi h1 hD fun w' g1 g2 g3 => hK _ _ (h w' g1 g2 g3)
theorem false_upd2 {w w' : World} (h : Below w.heap.size w w') : Upd (fun _ => False) w w' := Upd.of_below h (fun _ h1 h2 => by omega)
theorem exec_load_blk (ty : TypeId) (x : Operand) (ho : op.op = .load ty x)
    (g : Nat) (hx : a.eval x = .pointer (some ⟨g, 0, none⟩)) (t : TypeId) (cs : Array Value) (fr : Nat × Nat) (d : TypeDesc) (hg : w.heap[g]? = some (.cells cs t fr))
    (hu : P.underlying ty = some d) (hd : (match d with | .struct _ | .array _ _ => true | _ => false) = true) (hi : (P.info? ty).map (·.size) = some cs.size) : (execOp a.eval op).run P w = .ok (.value (.agg cs)) w := by
  unfold execOp
  simp only [ho, hx, Instr.loadAt, Instr.sureAddr, Sem.run_bind, Sem.run_pure, Result.andThen_ok, run_loadVar_row w g t ty cs fr d hg hu hd hi]
end
end Go.Proofs.Ytmklapbecdhnmaa
namespace Go.Proofs.Ytmklapbecdhnmaa
open Go.RowKit
section
variable {P : Program} (w : World)
theorem run_append_own2 (base : Nat) (t ty e : TypeId) (i : TypeInfo) (z : Value) (size bytes : Nat) (ht : P.underlying t = some (.slice e)) (hi : P.info? e = some i) (hz : i.zero = some z)
    (hsize : i.size = size) (hby : i.bytes = bytes) (hzs : z.cells.size = size) (hsz : 0 < size)
    (v : Value) (n : Nat) (xs : List Value) (hown : w.ownsRow base e size v n xs)
    (a : Addr) (m c : Nat) (news : List Value) (hl : news.length = m * size) (hnews : ∀ j u, news[j]? = some u → w.cell? (a.add j) = some u) (h1 : ∀ u ∈ news, u.oneCell' = true)
    (h63 : n + m ≤ maxLen) (hbytes : (n + m) * bytes ≤ 140737488355328) (hbase : base ≤ w.heap.size) :
    ∃ v' w', (Builtin.append_ #[t, t] ty #[v, .slice (some a) m c]).run P w = .ok v' w' ∧ w'.ownsRow base e size v' (n + m) (xs ++ news) ∧ w.grownBy w' v.ownBlock ∧
      (v'.ownBlock = v.ownBlock ∨ v'.ownBlock = some w.heap.size) := by
  obtain ⟨v', w', hr, ho, hg, hn⟩ := run_append_own (P := P) w base t ty e i z size bytes ht hi hz hsize hby hzs hsz v n xs hown a m c news hl hnews h1 h63 hbytes hbase
  refine ⟨v', w', hr, ho, hg, ?_⟩
  subst hsize
  have hbytes' := hbytes
  subst hby
  rcases hown.2 with ⟨rfl, rfl⟩ | ⟨g, cap, cur, rfl, hbg, hgg, hnc, hcm, hcs, htake⟩
  · by_cases hm : m = 0
    · left
      rw [hn.2 ⟨rfl, hm⟩]
    · right
      have hr2 := run_append_nil (P := P) w t ty e i z ht hi hz a m c news hl hnews (by omega) (by unfold maxLen at h63; omega) (by simp only [Nat.zero_add] at hbytes; omega)
      rw [hr2] at hr
      injection hr with e1 e2
      rw [← e1]
      simp [Value.ownBlock]
  · by_cases hroom : n + m ≤ cap
    · left
      have hfit : n * i.size + news.length ≤ cur.size := by rw [hl, hcs, ← Nat.add_mul]; exact Nat.mul_le_mul_right _ hroom
      have hr2 := run_append_room (P := P) w t ty e i ht hi g n cap cur hgg a m c news hl hnews h1 hroom hfit
      rw [hr2] at hr
      injection hr with e1 e2
      rw [← e1]
      rfl
    · right
      have holds : ∀ j u, xs[j]? = some u → w.cell? ((⟨g, 0, none⟩ : Addr).add j) = some u := hown.cells (g := g) rfl
      have hr2 := run_append_grow (P := P) w t ty e i z ht hi hz ⟨g, 0, none⟩ n cap xs hown.1 holds a m c news hl hnews (by omega) (by unfold maxLen at h63; omega) (growslice_fits (by omega) hbytes')
      rw [hr2] at hr
      injection hr with e1 e2
      rw [← e1]
      simp [Value.ownBlock]
theorem wp_append_own2 {o : Oper} {a : Act} {K : Act → World → Prop} {Q : Exit → Act → World → Prop} (s x : Operand) (t : TypeId)
    (ho : o.op = .call { callee := .builtin .append, args := #[s, x], argTypes := #[t, t] })
    (base : Nat) (e : TypeId) (i : TypeInfo) (z : Value) (size bytes : Nat) (ht : P.underlying t = some (.slice e)) (hi : P.info? e = some i) (hz : i.zero = some z)
    (hsize : i.size = size) (hby : i.bytes = bytes) (hzs : z.cells.size = size) (hsz : 0 < size)
    (v : Value) (n : Nat) (xs : List Value) (hs : a.eval s = v) (hown : w.ownsRow base e size v n xs)
    (ad : Addr) (m c : Nat) (news : List Value) (hx : a.eval x = .slice (some ad) m c) (hl : news.length = m * size) (hnews : ∀ j u, news[j]? = some u → w.cell? (ad.add j) = some u) (h1 : ∀ u ∈ news, u.oneCell' = true)
    (h63 : n + m ≤ maxLen) (hbytes : (n + m) * bytes ≤ 140737488355328) (hbase : base ≤ w.heap.size)
    (h : ∀ v' w', w'.ownsRow base e size v' (n + m) (xs ++ news) → w.grownBy w' v.ownBlock → (v'.ownBlock = v.ownBlock ∨ v'.ownBlock = some w.heap.size) → K (a.put o.dst v') w') : o.wp P a w K Q := by
  obtain ⟨v', w', hr, h2, h3, h4⟩ := run_append_own2 (P := P) w base t o.type e i z size bytes ht hi hz hsize hby hzs hsz v n xs hown ad m c news hl hnews h1 h63 hbytes hbase
  unfold Oper.wp execOp
  simp only [ho, resolve, invoke, builtin, Sem.run_bind, Sem.run_pure, Result.andThen_ok, List.map_toArray, List.map_cons, List.map_nil, hs, hx, hr]
  exact h v' w' h2 h3 h4
end
end Go.Proofs.Ytmklapbecdhnmaa
namespace Go.Proofs.Ytmklapbecdhnmaa
open Go.RowKit
/-- A slice value that has these elements, at the head of a block of its own. -/
def Row (w : World) (e : TypeId) (v : Value) (xs : List Value) : Prop :=
  (v = .slice none 0 0 ∧ xs = []) ∨ ∃ g cap cur, v = .slice (some ⟨g, 0, none⟩) xs.length cap ∧ w.heap[g]? = some (.cells cur e (0, 0)) ∧ xs.length ≤ cap ∧ cap ≤ cur.size ∧ cap ≤ maxLen ∧ cur.toList.take xs.length = xs
theorem Row.form {w : World} {e : TypeId} {v : Value} {xs : List Value} (h : Row w e v xs) : ∃ a c, v = .slice a xs.length c := by
  rcases h with ⟨rfl, rfl⟩ | ⟨g, cap, _, rfl, _⟩
  · exact ⟨_, _, rfl⟩
  · exact ⟨_, _, rfl⟩
theorem Row.lt {w : World} {e : TypeId} {v : Value} {xs : List Value} (h : Row w e v xs) {b : Nat} (hb : v.ownBlock = some b) : b < w.heap.size := by
  rcases h with ⟨rfl, _⟩ | ⟨g, cap, cur, rfl, hg, _⟩
  · cases hb
  · simp only [Value.ownBlock, Option.some.injEq] at hb
    subst hb
    exact heap_lt hg
theorem Row.upd {F : Nat → Prop} {w w' : World} {e : TypeId} {v : Value} {xs : List Value} (h : Row w e v xs) (hu : Upd F w w') (hn : ∀ b, v.ownBlock = some b → ¬ F b) : Row w' e v xs := by
  rcases h with h | ⟨g, cap, cur, rfl, hg, rest⟩
  · exact .inl h
  · exact .inr ⟨g, cap, cur, rfl, hu.heap hg (hn g rfl), rest⟩
theorem Row.nil (w : World) (e : TypeId) : Row w e (.slice none 0 0) [] := .inl ⟨rfl, rfl⟩
theorem Row.cell {w : World} {e : TypeId} {a : Addr} {n c : Nat} {xs : List Value} (h : Row w e (.slice (some a) n c) xs) : ∀ j u, xs[j]? = some u → w.cell? (a.add j) = some u := by
  intro j u hj
  rcases h with ⟨h, _⟩ | ⟨g, cap, cur, hv, hg, _, _, _, ht⟩
  · cases h
  · injection hv with h1 h2 h3
    injection h1 with h1
    subst h1
    rw [Addr.add_lit, Nat.zero_add]
    refine cell_of hg j ?_
    rw [← ht] at hj
    have hjl : j < xs.length := by
      have := (List.getElem?_eq_some_iff.1 hj).1
      simp at this
      omega
    rw [List.getElem?_take_of_lt hjl] at hj
    simpa using hj
theorem Row.addr {w : World} {e : TypeId} {a : Option Addr} {n c : Nat} {xs : List Value} (h : Row w e (.slice a n c) xs) (hx : 0 < xs.length) : ∃ g, a = some ⟨g, 0, none⟩ := by
  rcases h with ⟨_, rfl⟩ | ⟨g, cap, cur, hv, _⟩
  · simp at hx
  · injection hv with h1
    exact ⟨g, h1⟩
theorem Row.len {w : World} {e : TypeId} {a : Option Addr} {n c : Nat} {xs : List Value} (h : Row w e (.slice a n c) xs) : n = xs.length ∧ n ≤ c ∧ c ≤ maxLen := by
  rcases h with ⟨h, rfl⟩ | ⟨g, cap, cur, hv, _, h1, _, h2, _⟩
  · injection h with h1 h2 h3
    exact ⟨h2, by omega, by unfold maxLen; omega⟩
  · injection hv with h3 h4 h5
    subst h4 h5
    exact ⟨rfl, h1, h2⟩
/-- The same, cut. -/
theorem Row.cut {w : World} {e : TypeId} {a : Option Addr} {n c m : Nat} {xs : List Value} (h : Row w e (.slice a n c) xs) (hm : m ≤ n) : Row w e (.slice a m c) (xs.take m) := by
  obtain ⟨hn, _, _⟩ := h.len
  rcases h with ⟨h, rfl⟩ | ⟨g, cap, cur, hv, hg, h1, h2, h3, h4⟩
  · injection h with e1 e2 e3
    subst e1 e2 e3
    obtain rfl : m = 0 := by omega
    exact .inl ⟨rfl, rfl⟩
  · injection hv with e1 e2 e3
    subst e1 e3
    have hl : (xs.take m).length = m := by rw [List.length_take]; omega
    refine .inr ⟨g, c, cur, by rw [hl], hg, by omega, h2, h3, ?_⟩
    rw [hl, ← h4, List.take_take]
    congr 1
    omega
/-- The same without its spare places. -/
theorem Row.clip {w : World} {e : TypeId} {a : Option Addr} {n c : Nat} {xs : List Value} (h : Row w e (.slice a n c) xs) : Row w e (.slice a n n) xs := by
  obtain ⟨hn, _, _⟩ := h.len
  rcases h with ⟨h, rfl⟩ | ⟨g, cap, cur, hv, hg, h1, h2, h3, h4⟩
  · injection h with e1 e2 e3
    subst e1 e2
    exact .inl ⟨rfl, rfl⟩
  · injection hv with e1 e2 e3
    subst e1 e3
    subst hn
    exact .inr ⟨g, xs.length, cur, rfl, hg, Nat.le_refl _, by omega, by omega, h4⟩
theorem Row.of_owns {w : World} {base : Nat} {e : TypeId} {v : Value} {n : Nat} {xs : List Value} (h : w.ownsRow base e 1 v n xs) : Row w e v xs := by
  obtain ⟨hl, h⟩ := h
  rw [Nat.mul_one] at hl
  rcases h with ⟨rfl, rfl⟩ | ⟨g, cap, cur, rfl, _, hg, h1, h2, h3, h4⟩
  · exact .inl ⟨rfl, List.eq_nil_of_length_eq_zero hl⟩
  · rw [Nat.mul_one] at h3 h4
    exact .inr ⟨g, cap, cur, by rw [hl], hg, by omega, by omega, h2, by rw [hl]; exact h4⟩
/-- What may have become of a row: it lies where it lay, or in a new block. -/
def Near (w : World) (v v' : Value) : Prop := ∀ b, v'.ownBlock = some b → v.ownBlock = some b ∨ w.heap.size ≤ b
theorem Near.refl (w : World) (v : Value) : Near w v v := fun b h => .inl h
theorem Near.then {w w1 : World} {v v1 v2 : Value} (h : Near w v v1) (g : Near w1 v1 v2) (hs : w.heap.size ≤ w1.heap.size) : Near w v v2 := fun b hb => by
  rcases g b hb with e | e
  · exact h b e
  · right; omega
section
variable {P : Program} (w : World)
theorem run_append_row (t ty e : TypeId) (i : TypeInfo) (z : Value) (bytes : Nat) (ht : P.underlying t = some (.slice e)) (hi : P.info? e = some i) (hz : i.zero = some z)
    (hsize : i.size = 1) (hby : i.bytes = bytes) (hzs : z.cells.size = 1) (v : Value) (xs : List Value) (hv : Row w e v xs) (a : Addr) (m c : Nat) (news : List Value) (hl : news.length = m) (hnews : ∀ j u, news[j]? = some u → w.cell? (a.add j) = some u) (h1 : ∀ u ∈ news, u.oneCell' = true)
    (h63 : xs.length + m ≤ maxLen) (hbytes : (xs.length + m) * bytes ≤ 140737488355328) :
    ∃ v' w', (Builtin.append_ #[t, t] ty #[v, .slice (some a) m c]).run P w = .ok v' w' ∧ Row w' e v' (xs ++ news) ∧ Upd (fun b => v.ownBlock = some b) w w' ∧ Near w v v' := by
  rcases hv with ⟨rfl, rfl⟩ | ⟨g, cap, cur, rfl, hg, hnc, hcs, hcm, htake⟩
  · obtain ⟨v', w', hr, ho, hgr, hn⟩ := run_append_own2 (P := P) w 0 t ty e i z 1 bytes ht hi hz hsize hby hzs (by decide) (.slice none 0 0) 0 [] ⟨rfl, .inl ⟨rfl, rfl⟩⟩ a m c news (by rw [hl, Nat.mul_one]) hnews h1 (by simpa using h63) (by simpa using hbytes) (Nat.zero_le _)
    refine ⟨v', w', hr, .of_owns ho, (Upd.refl _ w).grown hgr (fun k _ h => h), fun b hb => ?_⟩
    rcases hn with h | h
    · left; rw [← h]; exact hb
    · right; rw [h] at hb; simp only [Option.some.injEq] at hb; omega
  · by_cases hroom : xs.length + m ≤ cap
    · have hfit : xs.length * i.size + news.length ≤ cur.size := by rw [hl, hsize]; omega
      have hr := run_append_room (P := P) w t ty e i ht hi g xs.length cap cur hg a m c news (by rw [hl, hsize, Nat.mul_one]) hnews h1 hroom hfit
      rw [hsize, Nat.mul_one] at hr
      refine ⟨_, _, hr, .inr ⟨g, cap, _, by rw [List.length_append, hl], setRow_heap w g cur _ e _ hg, by rw [List.length_append, hl]; exact hroom, ?_, hcm, ?_⟩, ?_, Near.refl _ _⟩
      · simp only [List.size_toArray, List.length_append, List.length_take, List.length_drop, Array.length_toList]
        omega
      · rw [htake]
        exact List.take_left
      · exact ⟨rfl, rfl, rfl, by simp, fun k _ hk => setRow_other w g k _ (fun e => hk (by simp [Value.ownBlock, e]))⟩
    · have holds : ∀ j u, xs[j]? = some u → w.cell? ((⟨g, 0, none⟩ : Addr).add j) = some u := Row.cell (e := e) (n := xs.length) (c := cap) (.inr ⟨g, cap, cur, rfl, hg, hnc, hcs, hcm, htake⟩)
      have hr := run_append_grow (P := P) w t ty e i z ht hi hz ⟨g, 0, none⟩ xs.length cap xs (by rw [hsize, Nat.mul_one]) holds a m c news (by rw [hl, hsize, Nat.mul_one]) hnews (by omega) (by unfold maxLen at h63; omega) (growslice_fits (by omega) (by rw [hby]; exact hbytes))
      have hge := grownCap_ge w (xs.length + m) cap e
      have hcm2 : grownCap w (xs.length + m) cap e ≤ maxLen := grownCap_le_maxLen w (xs.length + m) cap e h63
      refine ⟨_, _, hr, .inr ⟨w.heap.size, _, _, by rw [List.length_append, hl], heap_alloc_new w.drew _, by rw [List.length_append, hl]; exact hge, ?_, hcm2, ?_⟩, ⟨rfl, rfl, rfl, by simp, fun k hk _ => Below.heap_alloc w.drew _ k hk⟩, fun b hb => ?_⟩
      · simp only [Array.size_append, List.size_toArray, size_zeroCells, hzs, hl]
        omega
      · simp only [Array.toList_append, List.append_assoc]
        rw [← List.append_assoc]
        exact List.take_left
      · right
        simp only [Value.ownBlock, Option.some.injEq] at hb
        omega
theorem run_append_none (t ty e : TypeId) (i : TypeInfo) (ht : P.underlying t = some (.slice e)) (hi : P.info? e = some i) (hsize : i.size = 1) (v : Value) (xs : List Value) (hv : Row w e v xs) (c : Nat) :
    (Builtin.append_ #[t, t] ty #[v, .slice none 0 c]).run P w = .ok v w := by
  rcases hv with ⟨rfl, rfl⟩ | ⟨g, cap, cur, rfl, hg, hnc, _⟩
  · simp [Builtin.append_, run_underlying ht, sizeOf, typeInfo, hi, Builtin.lenOf, Builtin.firstCells]
  · simp [Builtin.append_, run_underlying ht, sizeOf, typeInfo, hi, Builtin.lenOf, Builtin.firstCells, hnc, storeCells]
/-- An append of what another row has. -/
theorem run_append_rows (t ty e : TypeId) (i : TypeInfo) (z : Value) (bytes : Nat) (ht : P.underlying t = some (.slice e)) (hi : P.info? e = some i) (hz : i.zero = some z)
    (hsize : i.size = 1) (hby : i.bytes = bytes) (hzs : z.cells.size = 1) (v : Value) (xs : List Value) (hv : Row w e v xs) (v2 : Value) (ys : List Value) (h2 : Row w e v2 ys) (h1 : ∀ u ∈ ys, u.oneCell' = true)
    (h63 : xs.length + ys.length ≤ maxLen) (hbytes : (xs.length + ys.length) * bytes ≤ 140737488355328) :
    ∃ v' w', (Builtin.append_ #[t, t] ty #[v, v2]).run P w = .ok v' w' ∧ Row w' e v' (xs ++ ys) ∧ Upd (fun b => v.ownBlock = some b) w w' ∧ Near w v v' := by
  rcases h2 with ⟨rfl, rfl⟩ | ⟨g, cap, cur, rfl, hg, hnc, hcs, hcm, htake⟩
  · exact ⟨v, w, run_append_none w t ty e i ht hi hsize v xs hv 0, by rw [List.append_nil]; exact hv, Upd.refl _ _, Near.refl _ _⟩
  · exact run_append_row w t ty e i z bytes ht hi hz hsize hby hzs v xs hv ⟨g, 0, none⟩ ys.length cap ys rfl (Row.cell (e := e) (n := ys.length) (c := cap) (.inr ⟨g, cap, cur, rfl, hg, hnc, hcs, hcm, htake⟩)) h1 h63 hbytes
theorem wp_append_rows {o : Oper} {a : Act} {K : Act → World → Prop} {Q : Exit → Act → World → Prop} (s x : Operand) (t : TypeId) (ho : o.op = .call { callee := .builtin .append, args := #[s, x], argTypes := #[t, t] })
    (e : TypeId) (i : TypeInfo) (z : Value) (bytes : Nat) (ht : P.underlying t = some (.slice e)) (hi : P.info? e = some i) (hz : i.zero = some z) (hsize : i.size = 1) (hby : i.bytes = bytes) (hzs : z.cells.size = 1)
    (v : Value) (hs : a.eval s = v) (xs : List Value) (hv : Row w e v xs) (v2 : Value) (hx : a.eval x = v2) (ys : List Value) (h2 : Row w e v2 ys) (h1 : ∀ u ∈ ys, u.oneCell' = true)
    (h63 : xs.length + ys.length ≤ maxLen) (hbytes : (xs.length + ys.length) * bytes ≤ 140737488355328)
    (h : ∀ v' w', Row w' e v' (xs ++ ys) → Upd (fun b => v.ownBlock = some b) w w' → Near w v v' → K (a.put o.dst v') w') : o.wp P a w K Q := by
  obtain ⟨v', w', hr, h2, h3, h4⟩ := run_append_rows (P := P) w t o.type e i z bytes ht hi hz hsize hby hzs v xs hv v2 ys h2 h1 h63 hbytes
  unfold Oper.wp execOp
  simp only [ho, resolve, invoke, builtin, Sem.run_bind, Sem.run_pure, Result.andThen_ok, List.map_toArray, List.map_cons, List.map_nil, hs, hx, hr]
  exact h v' w' h2 h3 h4
theorem wpList_append_rows {ops : Array Oper} {rest : List Oper} {o : Oper} {a : Act} {Q : Exit → Act → World → Prop} (hgd : o.guard = none) (s x : Operand) (t : TypeId) (ho : o.op = .call { callee := .builtin .append, args := #[s, x], argTypes := #[t, t] })
    (e : TypeId) (i : TypeInfo) (z : Value) (bytes : Nat) (ht : P.underlying t = some (.slice e)) (hi : P.info? e = some i) (hz : i.zero = some z) (hsize : i.size = 1) (hby : i.bytes = bytes) (hzs : z.cells.size = 1)
    (v : Value) (hs : a.eval s = v) (xs : List Value) (hv : Row w e v xs) (v2 : Value) (hx : a.eval x = v2) (ys : List Value) (h2 : Row w e v2 ys) (h1 : ∀ u ∈ ys, u.oneCell' = true)
    (h63 : xs.length + ys.length ≤ maxLen) (hbytes : (xs.length + ys.length) * bytes ≤ 140737488355328)
    (h : ∀ v' w', Row w' e v' (xs ++ ys) → Upd (fun b => v.ownBlock = some b) w w' → Near w v v' → wpList P ops Q rest (a.put o.dst v') w') : wpList P ops Q (o :: rest) a w :=
  wpList_plain hgd fun _ hK => wp_append_rows w s x t ho e i z bytes ht hi hz hsize hby hzs v hs xs hv v2 hx ys h2 h1 h63 hbytes fun v' w' a1 a2 a3 => hK _ _ (h v' w' a1 a2 a3)
end
end Go.Proofs.Ytmklapbecdhnmaa
namespace Go.Proofs.Ytmklapbecdhnmaa
structure ND where
  lines : List ByteArray
  kids : List Nat
  count : Nat
def ND.zero : ND := ⟨[], [], 0⟩
def ND.size (x : ND) : Nat := x.lines.length + x.kids.length
structure TD where
  nodes : List ND
  free : List Nat
  root : Nat
  bytes : Int
def TD.get (t : TD) (k : Nat) : ND := t.nodes.getD k .zero
def TD.put (t : TD) (k : Nat) (x : ND) : TD := { t with nodes := t.nodes.set k x }
def TD.make (t : TD) (x : ND) : Nat × TD := match t.free.getLast? with
  | some k => (k, { t with free := t.free.dropLast, nodes := t.nodes.set k x })
  | none => (t.nodes.length, { t with nodes := t.nodes ++ [x] })
def TD.drop (t : TD) (k : Nat) : TD := { t with nodes := t.nodes.set k .zero, free := t.free ++ [k] }
def TD.counts (t : TD) (ks : List Nat) : Nat := (ks.map fun j => (t.get j).count).sum
def TD.sum (t : TD) (k : Nat) : TD := t.put k { t.get k with count := (t.get k).lines.length + t.counts (t.get k).kids }
def TD.find (t : TD) : List Nat → Nat → Nat → Nat × Nat
  | [], _, i => (0, i)
  | [_], n, i => (n, i)
  | a :: b :: ks, n, i => if i < (t.get a).count then (n, i) else t.find (b :: ks) (n + 1) (i - (t.get a).count)
def TD.at (t : TD) : Nat → Nat → Nat → Option (Nat × Nat)
  | 0, _, _ => none
  | f + 1, k, i => if (t.get k).kids = [] then some (k, i) else t.at f ((t.get k).kids.getD (t.find (t.get k).kids 0 i).1 0) (t.find (t.get k).kids 0 i).2
def insL {α : Type} (l : List α) (i : Nat) (x : α) : List α := l.take i ++ x :: l.drop i
def delL {α : Type} (l : List α) (i : Nat) : List α := l.take i ++ l.drop (i + 1)
def ND.low (x : ND) : ND := if x.kids = [] then { x with lines := x.lines.take (x.size / 2) } else { x with kids := x.kids.take (x.size / 2) }
def ND.high (x : ND) : ND := if x.kids = [] then ⟨x.lines.drop (x.size / 2), [], 0⟩ else ⟨[], x.kids.drop (x.size / 2), 0⟩
def TD.cut (t : TD) (k : Nat) : Nat × TD := (t.put k (t.get k).low).make (t.get k).high
def TD.split (t : TD) (k : Nat) : Option Nat × TD := if (t.get k).size ≤ 8 then (none, t) else (some (t.cut k).1, ((t.cut k).2.sum k).sum (t.cut k).1)
def TD.hang (s : TD) (k n : Nat) : Option Nat → TD
  | none => s
  | some j => s.put k { s.get k with kids := insL (s.get k).kids (n + 1) j }
def TD.ins (line : ByteArray) : Nat → TD → Nat → Nat → Option (Option Nat × TD)
  | 0, _, _, _ => none
  | f + 1, t, k, i =>
    if (t.get k).kids = [] then some (((t.put k { t.get k with lines := insL (t.get k).lines i line }).sum k).split k)
    else match TD.ins line f t ((t.get k).kids.getD (t.find (t.get k).kids 0 i).1 0) (t.find (t.get k).kids 0 i).2 with
      | none => none
      | some (o, s) => some (((s.hang k (t.find (t.get k).kids 0 i).1 o).sum k).split k)
def TD.len (t : TD) : Nat := (t.get t.root).count
def TD.top (s : TD) : Option Nat → TD
  | none => s
  | some j => ({ (s.make ⟨[], [s.root, j], 0⟩).2 with root := (s.make ⟨[], [s.root, j], 0⟩).1 }).sum (s.make ⟨[], [s.root, j], 0⟩).1
def TD.insert (f : Nat) (t : TD) (i : Int) (line : ByteArray) : Option (Bool × TD) :=
  if i < 0 ∨ (t.len : Int) < i then some (false, t)
  else match TD.ins line f t t.root i.toNat with
    | none => none
    | some (o, s) => some (true, { s.top o with bytes := (s.top o).bytes + line.size })
def TD.moved (t : TD) (a b : Nat) (back : Bool) : TD :=
  if (t.get a).kids = [] then
    if back = true then (t.put b { t.get b with lines := insL (t.get b).lines 0 ((t.get a).lines.getD ((t.get a).lines.length - 1) ⟨#[]⟩) }).put a { t.get a with lines := (t.get a).lines.take ((t.get a).lines.length - 1) }
    else (t.put b { t.get b with lines := (t.get b).lines ++ [(t.get a).lines.getD 0 ⟨#[]⟩] }).put a { t.get a with lines := delL (t.get a).lines 0 }
  else
    if back = true then (t.put b { t.get b with kids := insL (t.get b).kids 0 ((t.get a).kids.getD ((t.get a).kids.length - 1) 0) }).put a { t.get a with kids := (t.get a).kids.take ((t.get a).kids.length - 1) }
    else (t.put b { t.get b with kids := (t.get b).kids ++ [(t.get a).kids.getD 0 0] }).put a { t.get a with kids := delL (t.get a).kids 0 }
def TD.move (t : TD) (a b : Nat) (back : Bool) : TD := ((t.moved a b back).sum a).sum b
def TD.merged (t : TD) (k n : Nat) : TD :=
  ((t.put ((t.get k).kids.getD n 0) { t.get ((t.get k).kids.getD n 0) with lines := (t.get ((t.get k).kids.getD n 0)).lines ++ (t.get ((t.get k).kids.getD (n + 1) 0)).lines, kids := (t.get ((t.get k).kids.getD n 0)).kids ++ (t.get ((t.get k).kids.getD (n + 1) 0)).kids }).drop ((t.get k).kids.getD (n + 1) 0)).put k { t.get k with kids := delL (t.get k).kids (n + 1) }
def TD.merge (t : TD) (k n : Nat) : TD := (t.merged k n).sum ((t.get k).kids.getD n 0)
/-- How much a kid has. -/
def TD.sz (t : TD) (ks : List Nat) (n : Nat) : Nat := match ks[n]? with
  | none => 0
  | some j => (t.get j).size
def TD.mend (t : TD) (k n : Nat) : TD :=
  if 4 ≤ t.sz (t.get k).kids n then t
  else if 0 < n ∧ 4 < t.sz (t.get k).kids (n - 1) then t.move ((t.get k).kids.getD (n - 1) 0) ((t.get k).kids.getD n 0) true
  else if 4 < t.sz (t.get k).kids (n + 1) then t.move ((t.get k).kids.getD (n + 1) 0) ((t.get k).kids.getD n 0) false
  else if 0 < n then t.merge k (n - 1)
  else t.merge k n
def TD.rem : Nat → TD → Nat → Nat → Option (ByteArray × TD)
  | 0, _, _, _ => none
  | f + 1, t, k, i =>
    if (t.get k).kids = [] then some ((t.get k).lines.getD i ⟨#[]⟩, (t.put k { t.get k with lines := delL (t.get k).lines i }).sum k)
    else match TD.rem f t ((t.get k).kids.getD (t.find (t.get k).kids 0 i).1 0) (t.find (t.get k).kids 0 i).2 with
      | none => none
      | some (line, s) => some (line, (s.mend k (t.find (t.get k).kids 0 i).1).sum k)
def TD.low (t : TD) : TD := match (t.get t.root).kids with
  | [j] => { t.drop t.root with root := j }
  | _ => t
def TD.delete (f : Nat) (t : TD) (i : Int) : Option (Bool × TD) :=
  if i < 0 ∨ (t.len : Int) ≤ i then some (false, t)
  else match TD.rem f t t.root i.toNat with
    | none => none
    | some (line, s) => some (true, ({ s with bytes := s.bytes - line.size } : TD).low)
def TD.line (f : Nat) (t : TD) (i : Int) : Option (ByteArray × Bool) :=
  if i < 0 ∨ (t.len : Int) ≤ i then some (⟨#[]⟩, false)
  else match t.at f t.root i.toNat with
    | none => none
    | some (k, n) => some ((t.get k).lines.getD n ⟨#[]⟩, true)
def TD.change (f : Nat) (t : TD) (i : Int) (line : ByteArray) : Option (Bool × TD) :=
  if i < 0 ∨ (t.len : Int) ≤ i then some (false, t)
  else match t.at f t.root i.toNat with
    | none => none
    | some (k, n) => some (true, { t.put k { t.get k with lines := (t.get k).lines.set n line } with bytes := t.bytes + ((line.size : Int) - ((t.get k).lines.getD n ⟨#[]⟩).size) })
/-- The lines below a node. -/
def TD.walk (t : TD) : Nat → Nat → List ByteArray → Option (List ByteArray)
  | 0, _, _ => none
  | f + 1, k, out => (t.get k).kids.foldlM (fun o j => t.walk f j o) (out ++ (t.get k).lines)
end Go.Proofs.Ytmklapbecdhnmaa
namespace Go.Proofs
open Go.Shelf
def Try.lays15_ren : Go.Shelf.Ren := ⟨fun | 15 => 57 | n => n, fun | 22 => 42 | 3 => 3 | 4 => 4 | n => n, fun | n => n⟩
theorem Try.lays15 : Go.Proofs.Lays2.n15 Try.prog Try.lays15_ren := {
  mixed := by kernel_rfl
  f15 := Try.func57.trans (congrArg some (by kernel_rfl))
  t3 := Try.underlying3
  a3 := Try.isAgg3
  z3 := Try.sizeOf3
  v3 := Try.zeroValue3
  t4 := Try.underlying4
  a4 := Try.isAgg4
  z4 := Try.sizeOf4
  v4 := Try.zeroValue4
  t22 := Try.underlying42
  a22 := Try.isAgg42
  z22 := Try.sizeOf42
  v22 := Try.zeroValue42
  i3 := by kernel_rfl }
def Try.lays16_ren : Go.Shelf.Ren := ⟨fun | 16 => 55 | n => n, fun | 24 => 22 | 9 => 9 | 4 => 4 | n => n, fun | n => n⟩
theorem Try.lays16 : Go.Proofs.Lays2.n16 Try.prog Try.lays16_ren := {
  mixed := by kernel_rfl
  f16 := Try.func55.trans (congrArg some (by kernel_rfl))
  t4 := Try.underlying4
  a4 := Try.isAgg4
  z4 := Try.sizeOf4
  v4 := Try.zeroValue4
  t9 := Try.underlying9
  a9 := Try.isAgg9
  z9 := Try.sizeOf9
  v9 := Try.zeroValue9
  t24 := Try.underlying22
  a24 := Try.isAgg22
  z24 := Try.sizeOf22
  v24 := Try.zeroValue22
  i9 := by kernel_rfl }
def Try.lays21_ren : Go.Shelf.Ren := ⟨fun | 21 => 47 | 27 => 53 | 28 => 54 | 35 => 63 | 39 => 66 | n => n, fun | 22 => 42 | 3 => 3 | 4 => 4 | 0 => 0 | n => n, fun | n => n⟩
theorem Try.lays21 : Go.Proofs.Lays2.n21 Try.prog Try.lays21_ren := {
  mixed := by kernel_rfl
  f21 := Try.func47.trans (congrArg some (by kernel_rfl))
  f27 := Try.func53.trans (congrArg some (by kernel_rfl))
  f28 := Try.func54.trans (congrArg some (by kernel_rfl))
  f35 := Try.func63.trans (congrArg some (by kernel_rfl))
  f39 := Try.func66.trans (congrArg some (by kernel_rfl))
  t0 := Try.underlying0
  a0 := Try.isAgg0
  z0 := Try.sizeOf0
  v0 := Try.zeroValue0
  t3 := Try.underlying3
  a3 := Try.isAgg3
  z3 := Try.sizeOf3
  v3 := Try.zeroValue3
  t4 := Try.underlying4
  a4 := Try.isAgg4
  z4 := Try.sizeOf4
  v4 := Try.zeroValue4
  t22 := Try.underlying42
  a22 := Try.isAgg42
  z22 := Try.sizeOf42
  v22 := Try.zeroValue42
  i3 := by kernel_rfl }
def Try.lays22_ren : Go.Shelf.Ren := ⟨fun | 22 => 45 | 29 => 51 | 30 => 52 | 36 => 62 | 17 => 65 | n => n, fun | 24 => 22 | 9 => 9 | 3 => 3 | 4 => 4 | 0 => 0 | n => n, fun | n => n⟩
theorem Try.lays22 : Go.Proofs.Lays2.n22 Try.prog Try.lays22_ren := {
  mixed := by kernel_rfl
  f17 := Try.func65.trans (congrArg some (by kernel_rfl))
  f22 := Try.func45.trans (congrArg some (by kernel_rfl))
  f29 := Try.func51.trans (congrArg some (by kernel_rfl))
  f30 := Try.func52.trans (congrArg some (by kernel_rfl))
  f36 := Try.func62.trans (congrArg some (by kernel_rfl))
  t0 := Try.underlying0
  a0 := Try.isAgg0
  z0 := Try.sizeOf0
  v0 := Try.zeroValue0
  t3 := Try.underlying3
  a3 := Try.isAgg3
  z3 := Try.sizeOf3
  v3 := Try.zeroValue3
  t4 := Try.underlying4
  a4 := Try.isAgg4
  z4 := Try.sizeOf4
  v4 := Try.zeroValue4
  t9 := Try.underlying9
  a9 := Try.isAgg9
  z9 := Try.sizeOf9
  v9 := Try.zeroValue9
  t24 := Try.underlying22
  a24 := Try.isAgg22
  z24 := Try.sizeOf22
  v24 := Try.zeroValue22
  i9 := by kernel_rfl }
def Try.lays23_ren : Go.Shelf.Ren := ⟨fun | 23 => 64 | n => n, fun | 22 => 42 | 3 => 3 | 4 => 4 | 0 => 0 | n => n, fun | n => n⟩
theorem Try.lays23 : Go.Proofs.Lays2.n23 Try.prog Try.lays23_ren := {
  mixed := by kernel_rfl
  f23 := Try.func64.trans (congrArg some (by kernel_rfl))
  t0 := Try.underlying0
  a0 := Try.isAgg0
  z0 := Try.sizeOf0
  v0 := Try.zeroValue0
  t3 := Try.underlying3
  a3 := Try.isAgg3
  z3 := Try.sizeOf3
  v3 := Try.zeroValue3
  t4 := Try.underlying4
  a4 := Try.isAgg4
  z4 := Try.sizeOf4
  v4 := Try.zeroValue4
  t22 := Try.underlying42
  a22 := Try.isAgg42
  z22 := Try.sizeOf42
  v22 := Try.zeroValue42
  i3 := by kernel_rfl }
def Try.lays24_ren : Go.Shelf.Ren := ⟨fun | 24 => 49 | n => n, fun | 24 => 22 | 9 => 9 | 3 => 3 | 4 => 4 | 0 => 0 | n => n, fun | n => n⟩
theorem Try.lays24 : Go.Proofs.Lays2.n24 Try.prog Try.lays24_ren := {
  mixed := by kernel_rfl
  f24 := Try.func49.trans (congrArg some (by kernel_rfl))
  t0 := Try.underlying0
  a0 := Try.isAgg0
  z0 := Try.sizeOf0
  v0 := Try.zeroValue0
  t3 := Try.underlying3
  a3 := Try.isAgg3
  z3 := Try.sizeOf3
  v3 := Try.zeroValue3
  t4 := Try.underlying4
  a4 := Try.isAgg4
  z4 := Try.sizeOf4
  v4 := Try.zeroValue4
  t9 := Try.underlying9
  a9 := Try.isAgg9
  z9 := Try.sizeOf9
  v9 := Try.zeroValue9
  t24 := Try.underlying22
  a24 := Try.isAgg22
  z24 := Try.sizeOf22
  v24 := Try.zeroValue22
  i9 := by kernel_rfl }
end Go.Proofs
namespace Go.Proofs.Ytmklapbecdhnmaa
open Go.RowKit
theorem ret_int {k : IntKind} {a b : Int} (h : a = b) : Ending.returned (.int k a) = .returned (.int k b) := by rw [h]
end Go.Proofs.Ytmklapbecdhnmaa
namespace Go.Proofs.Ytmklapbecdhnmaa
open Go.RowKit
def Stop (p : Prop) : Prop := p
section
variable {P : Program} {ops : Array Oper} {rest : List Oper} {o : Oper} {a : Act} {w : World} {Q : Exit → Act → World → Prop}
theorem stopSt (ty : TypeId) (x y : Operand) (ho : o.op = .store ty x y) (h : Stop (wpList P ops Q (o :: rest) a w)) : wpList P ops Q (o :: rest) a w := h
theorem stopLd (ty : TypeId) (x : Operand) (ho : o.op = .load ty x) (h : Stop (wpList P ops Q (o :: rest) a w)) : wpList P ops Q (o :: rest) a w := h
theorem stopSl (ty : TypeId) (x : Operand) (l h2 m) (ho : o.op = .slice ty x l h2 m) (h : Stop (wpList P ops Q (o :: rest) a w)) : wpList P ops Q (o :: rest) a w := h
theorem stopBS (ty : TypeId) (x) (y) (ho : o.op = .buildSlice ty x y) (h : Stop (wpList P ops Q (o :: rest) a w)) : wpList P ops Q (o :: rest) a w := h
end
end Go.Proofs.Ytmklapbecdhnmaa
namespace Go.Proofs.Ytmklapbecdhnmaa
open Go.RowKit
theorem exists_least (p : Nat → Prop) (h : ∃ n, p n) : ∃ n, p n ∧ ∀ m, p m → n ≤ m := by
  obtain ⟨n, hn⟩ := h
  induction n using Nat.strongRecOn with
  | _ n ih =>
    by_cases hx : ∃ m, m < n ∧ p m
    · obtain ⟨m, hm, hp⟩ := hx
      exact ih m hm hp
    · exact ⟨n, hn, fun m hm => Nat.le_of_not_lt fun hlt => hx ⟨m, hlt, hm⟩⟩
open Classical in
noncomputable def least (p : Nat → Prop) : Nat := if h : ∃ n, p n then (exists_least p h).choose else 0
end Go.Proofs.Ytmklapbecdhnmaa
