/- Memory: what a call may have written; rows that are owned; bytes and strings as cells. -/
import Derived.WalkKit
import Derived.Lib.Hide
import Derived.Maps.AppendAt
namespace Go.Proofs.Ytlhcojclfgbobaa
open Go.RowKit

/-- From w to w2 new blocks may have come, and of the old ones those of F may have turned. -/
structure Upd (F : Nat → Prop) (w w' : World) : Prop where
  os : w'.os = w.os
  tape : w'.tape = w.tape
  output : w'.output = w.output
  size : w.heap.size ≤ w'.heap.size
  block : ∀ k, k < w.heap.size → ¬ F k → w'.heap[k]? = w.heap[k]?

theorem Upd.refl (F : Nat → Prop) (w : World) : Upd F w w := ⟨rfl, rfl, rfl, Nat.le_refl _, fun _ _ _ => rfl⟩
theorem Upd.trans {F : Nat → Prop} {a b c : World} (h : Upd F a b) (k : Upd F b c) : Upd F a c :=
  ⟨k.os.trans h.os, k.tape.trans h.tape, k.output.trans h.output, Nat.le_trans h.size k.size, fun i hi hn => (k.block i (Nat.lt_of_lt_of_le hi h.size) hn).trans (h.block i hi hn)⟩
theorem Upd.mono {F G : Nat → Prop} {w w' : World} (h : Upd F w w') (hG : ∀ k, k < w.heap.size → F k → G k) : Upd G w w' :=
  ⟨h.os, h.tape, h.output, h.size, fun k hk hn => h.block k hk (fun hf => hn (hG k hk hf))⟩
/-- A second step, which writes of the old blocks those of F alone. -/
theorem Upd.then {F G : Nat → Prop} {a b c : World} (h : Upd F a b) (k : Upd G b c) (hG : ∀ i, i < a.heap.size → G i → F i) : Upd F a c :=
  ⟨k.os.trans h.os, k.tape.trans h.tape, k.output.trans h.output, Nat.le_trans h.size k.size, fun i hi hn => (k.block i (Nat.lt_of_lt_of_le hi h.size) (fun hg => hn (hG i hi hg))).trans (h.block i hi hn)⟩
theorem Upd.alloc {F : Nat → Prop} {a w : World} (h : Upd F a w) (o : Obj) : Upd F a (w.alloc o) :=
  h.then (G := fun _ => False) ⟨rfl, rfl, rfl, by simp, fun k hk _ => Below.heap_alloc _ _ _ hk⟩ (fun _ _ f => f.elim)
theorem Upd.drew {F : Nat → Prop} {a w : World} (h : Upd F a w) : Upd F a w.drew := ⟨h.os, h.tape, h.output, h.size, h.block⟩
theorem Upd.setCell {F : Nat → Prop} {a w : World} (h : Upd F a w) {p : Addr} (hp : p.block < a.heap.size → F p.block) (u : Value) : Upd F a (w.setCell p u) :=
  h.then (G := fun k => k = p.block) ⟨rfl, rfl, rfl, by simp [World.setCell], fun k _ hn => Below.heap_setCell _ _ _ _ hn⟩ (fun i hi e => by subst e; exact hp hi)
theorem Upd.grown {F : Nat → Prop} {a w w' : World} {row : Option Nat} (h : Upd F a w) (hg : w.grownBy w' row) (hr : ∀ k, k < a.heap.size → row = some k → F k) : Upd F a w' :=
  h.then (G := fun k => some k = row) ⟨hg.os, hg.tape, hg.output, hg.size, fun k hk hn => hg.block k hk hn⟩ (fun i hi e => hr i hi e.symm)
theorem Upd.of_below {F : Nat → Prop} {B : Nat} {w w' : World} (h : Below B w w') (hB : ∀ k, k < w.heap.size → B ≤ k → F k) : Upd F w w' :=
  ⟨h.os, h.tape, h.output, h.size, fun k hk hn => h.block k (Nat.lt_of_not_le fun hle => hn (hB k hk hle))⟩
theorem Upd.below {F : Nat → Prop} {B : Nat} {w w' : World} (h : Upd F w w') (hB : B ≤ w.heap.size) (hF : ∀ k, k < B → ¬ F k) : Below B w w' :=
  ⟨h.os, h.tape, h.output, h.size, fun k hk => h.block k (by omega) (hF k hk)⟩
theorem Upd.cell {F : Nat → Prop} {w w' : World} (h : Upd F w w') {p : Addr} {v : Value} (hc : w.cell? p = some v) (hn : ¬ F p.block) : w'.cell? p = some v := by
  rw [World.cell?_of_block (w := w) (h.block p.block (World.block_lt_of_cell? w p hc) hn)]; exact hc
theorem Upd.heap {F : Nat → Prop} {w w' : World} (h : Upd F w w') {k : Nat} {o : Obj} (hc : w.heap[k]? = some o) (hn : ¬ F k) : w'.heap[k]? = some o := by
  rw [h.block k (Array.getElem?_eq_some_iff.1 hc).1 hn]; exact hc

/-- A row that is owned, in a world that has turned elsewhere. -/
theorem ownsRow_upd {F : Nat → Prop} {w w' : World} {base : Nat} {e : TypeId} {size : Nat} {v : Value} {n : Nat} {xs : List Value} (h : w.ownsRow base e size v n xs) (hu : Upd F w w') (hn : ∀ g, v.ownBlock = some g → ¬ F g) : w'.ownsRow base e size v n xs := by
  refine ⟨h.1, ?_⟩
  rcases h.2 with hnil | ⟨g, cap, cur, rfl, hb, hgg, rest⟩
  · exact .inl hnil
  · refine .inr ⟨g, cap, cur, rfl, hb, ?_, rest⟩
    exact hu.heap hgg (hn g rfl)
theorem ownsRow_lt {w : World} {base : Nat} {e : TypeId} {size : Nat} {v : Value} {n : Nat} {xs : List Value} (h : w.ownsRow base e size v n xs) {g : Nat} (hg : v.ownBlock = some g) : g < w.heap.size := (h.lt g hg).2
theorem ownsRow_base {w : World} {base base' : Nat} {e : TypeId} {size : Nat} {v : Value} {n : Nat} {xs : List Value} (h : w.ownsRow base e size v n xs) (hb : ∀ g, v.ownBlock = some g → base' ≤ g) : w.ownsRow base' e size v n xs := by
  refine ⟨h.1, ?_⟩
  rcases h.2 with hnil | ⟨g, cap, cur, rfl, _, rest⟩
  · exact .inl hnil
  · exact .inr ⟨g, cap, cur, rfl, hb g rfl, rest⟩

theorem ownsRow_free {w : World} {base : Nat} {e : TypeId} {size : Nat} {v : Value} {n : Nat} {xs : List Value} (h : w.ownsRow base e size v n xs) {g : Nat} (hg : v.ownBlock = some g) (i : Nat) : w.frozen? ⟨g, i, none⟩ = false := by
  rcases h.2 with ⟨rfl, _⟩ | ⟨g', cap, cur, rfl, _, hgg, _⟩
  · simp [Value.ownBlock] at hg
  · simp only [Value.ownBlock, Option.some.injEq] at hg
    subst hg
    simp [World.frozen?, hgg]

/-- The cells of a block that is known whole. -/
theorem cell_of {w : World} {b : Nat} {cs : Array Value} {T : TypeId} {fr : Nat × Nat} (h : w.heap[b]? = some (.cells cs T fr)) (i : Nat) {v : Value} (hv : cs[i]? = some v) : w.cell? ⟨b, i, none⟩ = some v := by
  simp [World.cell?, h, hv]
theorem free_of {w : World} {b : Nat} {cs : Array Value} {T : TypeId} (h : w.heap[b]? = some (.cells cs T (0, 0))) (i : Nat) : w.frozen? ⟨b, i, none⟩ = false := by
  simp [World.frozen?, h]
theorem heap_set {w : World} {b : Nat} {cs : Array Value} {T : TypeId} {fr : Nat × Nat} (h : w.heap[b]? = some (.cells cs T fr)) (i : Nat) (v : Value) : (w.setCell ⟨b, i, none⟩ v).heap[b]? = some (.cells (cs.setIfInBounds i v) T fr) := by
  simp [World.setCell, Array.getElem?_modify, h]
theorem heap_set_ne {w : World} {b c : Nat} (i : Nat) (v : Value) (hne : c ≠ b) : (w.setCell ⟨b, i, none⟩ v).heap[c]? = w.heap[c]? := Below.heap_setCell _ _ _ _ hne
theorem heap_lt {w : World} {b : Nat} {o : Obj} (h : w.heap[b]? = some o) : b < w.heap.size := (Array.getElem?_eq_some_iff.1 h).1

theorem ownsRow_set {w : World} {base : Nat} {e : TypeId} {size : Nat} {v : Value} {n : Nat} {xs : List Value} (h : w.ownsRow base e size v n xs) {b i : Nat} (hn : v.ownBlock ≠ some b) (u : Value) : (w.setCell ⟨b, i, none⟩ u).ownsRow base e size v n xs :=
  ownsRow_upd (F := fun k => k = b) h (Upd.setCell (F := fun k => k = b) (p := ⟨b, i, none⟩) (Upd.refl _ _) (fun _ => rfl) u) (fun g hg e => hn (by rw [hg, e]))

theorem cell_one_at {w : World} {n : Nat} (x : Value) (t : TypeId) (hn : n = w.heap.size) : ∀ j u, [x][j]? = some u → (w.alloc (.cells #[x] t)).cell? ((⟨n, 0, none⟩ : Addr).add j) = some u := by
  subst hn; exact cell_one_new w x t

def byteV (c : UInt8) : Value := .int .u8 (c.toNat : Int)
def bytesV (l : List UInt8) : List Value := l.map byteV
def strV (l : List UInt8) : Value := .string ⟨l.toArray⟩
def strsV (l : List (List UInt8)) : List Value := l.map strV
end Go.Proofs.Ytlhcojclfgbobaa
