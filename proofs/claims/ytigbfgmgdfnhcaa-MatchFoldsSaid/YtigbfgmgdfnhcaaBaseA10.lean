/- Lemmas that the law's proof stands on, part 10: PatM. No condition. -/
import Derived.Test.YtigbfgmgdfnhcaaBaseA0
import Derived.Test.YtigbfgmgdfnhcaaBaseA9
set_option linter.all false
set_option linter.unusedVariables false
set_option linter.unusedSimpArgs false
namespace Go.Proofs.Ytigbfgmgdfnhcaa
open Go.RowKit
theorem BrAt.form {w : World} {B bb : Nat} {b : BrD} {kv : Value} (h : BrAt w B bb b kv) : ∃ a c, kv = .slice a b.kids.length c := by
  rcases h.own.2 with ⟨rfl, h0⟩ | ⟨g, cap, cur, rfl, _⟩
  · exact ⟨none, 0, by rw [h0]⟩
  · exact ⟨_, cap, rfl⟩
/-- A reader, a branch; since the world W they and what they own, and new memory, alone have turned. -/
structure Now (W : World) (B rb bb : Nat) (s : ByteArray) (nv0 kv0 : Value) (Z0 : Nat → Prop) (st : RdD) (b : BrD) (nv : Value) (kvs : List Value) (kv : Value) (Z : Nat → Prop) (w : World) : Prop where
  rd : RdAt w B rb s st nv kvs Z
  br : BrAt w B bb b kv
  sep : ∀ g, kv.ownBlock = some g → ¬ Z g
  upd : Upd (fun k => k = rb ∨ k = bb ∨ nv0.ownBlock = some k ∨ kv0.ownBlock = some k) W w
  nvn : ∀ g, nv.ownBlock = some g → nv0.ownBlock = some g ∨ W.heap.size ≤ g
  kvn : ∀ g, kv.ownBlock = some g → kv0.ownBlock = some g ∨ W.heap.size ≤ g
  zin : ∀ k, Z0 k → Z k
  zout : ∀ k, Z k → Z0 k ∨ W.heap.size ≤ k
  base : B ≤ W.heap.size
section
variable {W : World} {B rb bb : Nat} {s : ByteArray} {nv0 kv0 : Value} {Z0 : Nat → Prop} {st : RdD} {b : BrD} {nv : Value} {kvs : List Value} {kv : Value} {Z : Nat → Prop} {w : World}
theorem Now.lts (h : Now W B rb bb s nv0 kv0 Z0 st b nv kvs kv Z w) : rb < w.heap.size ∧ bb < w.heap.size ∧ (∀ g, nv.ownBlock = some g → g < w.heap.size) ∧ (∀ g, kv.ownBlock = some g → g < w.heap.size) ∧ ∀ k, Z k → k < w.heap.size :=
  ⟨h.rd.lts.1, heap_lt h.br.blk, h.rd.lts.2.1, fun g hg => (h.br.own.lt g hg).2, h.rd.lts.2.2⟩
theorem Now.bbne (h : Now W B rb bb s nv0 kv0 Z0 st b nv kvs kv Z w) : bb ≠ rb ∧ nv.ownBlock ≠ some bb ∧ ¬ Z bb := by
  refine ⟨fun e => ?_, fun e => ?_, fun e => ?_⟩
  · have := h.br.blk; rw [e, h.rd.blk] at this; simp at this
  · obtain ⟨cs, hc⟩ := ownBlock_node h.rd.own e
    rw [h.br.blk] at hc; simp at hc
  · obtain ⟨cs, fr, hc⟩ := h.rd.zone _ e
    rw [h.br.blk] at hc; simp at hc
theorem Now.kvne (h : Now W B rb bb s nv0 kv0 Z0 st b nv kvs kv Z w) {g : Nat} (hg : kv.ownBlock = some g) : g ≠ rb ∧ g ≠ bb ∧ nv.ownBlock ≠ some g := by
  obtain ⟨cs, hc⟩ := ownBlock_int h.br.own hg
  refine ⟨fun e => ?_, fun e => h.br.kvne (by rw [hg, e]), fun e => ?_⟩
  · rw [e, h.rd.blk] at hc; simp at hc
  · obtain ⟨cs2, hc2⟩ := ownBlock_node h.rd.own e
    rw [hc2] at hc; simp at hc
theorem Now.start (hr : RdAt W B rb s st nv kvs Z) (hb : BrAt W B bb b kv) (hs : ∀ g, kv.ownBlock = some g → ¬ Z g) (hB : B ≤ W.heap.size) : Now W B rb bb s nv kv Z st b nv kvs kv Z W :=
  ⟨hr, hb, hs, Upd.refl _ _, fun _ h => .inl h, fun _ h => .inl h, fun _ h => h, fun _ h => .inl h, hB⟩
/-- The world turns at places that are new. -/
theorem Now.newer (h : Now W B rb bb s nv0 kv0 Z0 st b nv kvs kv Z w) {w' : World} (hu : Upd (fun k => w.heap.size ≤ k) w w') : Now W B rb bb s nv0 kv0 Z0 st b nv kvs kv Z w' := by
  obtain ⟨h1, h2, h3, h4, h5⟩ := h.lts
  have hsz := h.upd.size
  exact ⟨h.rd.upd hu (by omega) (fun g hg => by have := h3 g hg; omega) (fun k hk => by have := h5 k hk; omega), h.br.upd hu (by omega) (fun g hg => by have := h4 g hg; omega), h.sep,
    h.upd.then hu (fun i hi (hh : _ ≤ i) => absurd hi (by omega)), h.nvn, h.kvn, h.zin, h.zout, h.base⟩
/-- The reader's own block turns alone. -/
theorem Now.set (h : Now W B rb bb s nv0 kv0 Z0 st b nv kvs kv Z w) {w' : World} {st2 : RdD} (hr : RdAt w' B rb s st2 nv kvs Z) (hu : Upd (fun k => k = rb) w w') : Now W B rb bb s nv0 kv0 Z0 st2 b nv kvs kv Z w' :=
  ⟨hr, h.br.upd hu (fun e => h.bbne.1 e) (fun g hg e => (h.kvne hg).1 e), h.sep, h.upd.then hu (fun _ _ e => .inl e), h.nvn, h.kvn, h.zin, h.zout, h.base⟩
theorem Now.put (h : Now W B rb bb s nv0 kv0 Z0 st b nv kvs kv Z w) {w' : World} {st2 : RdD} (hk : w'.heap[rb]? = some (.cells (rdC s st2 nv) 96 (0, 0))) (hu : Upd (fun k => k = rb) w w') (hn : st2.nodes = st.nodes) (hd : st2.done.length = 10) : Now W B rb bb s nv0 kv0 Z0 st2 b nv kvs kv Z w' :=
  h.set (h.rd.set hu hk hn hd) hu
/-- A node comes in, or more. -/
theorem Now.to (h : Now W B rb bb s nv0 kv0 Z0 st b nv kvs kv Z w) {w' : World} {st2 : RdD} {Y : Nat → Prop} (hr : RdTo w B rb s nv Z Y st2 w') (hy : ∀ k, Y k → W.heap.size ≤ k ∧ kv.ownBlock ≠ some k) : ∃ nv' kvs' Z', Now W B rb bb s nv0 kv0 Z0 st2 b nv' kvs' kv Z' w' := by
  obtain ⟨nv', kvs', Z', h1, h2, h3, h4, h5⟩ := hr
  have hsz := h.upd.size
  refine ⟨nv', kvs', Z', h1, h.br.upd h2 (fun e => e.elim h.bbne.1 h.bbne.2.1) (fun g hg e => e.elim (h.kvne hg).1 (h.kvne hg).2.2), fun g hg hz => ?_, h.upd.then h2 (fun i hi e => ?_), fun g hg => ?_, h.kvn, fun k hk => h4 k (h.zin k hk), fun k hk => ?_, h.base⟩
  · rcases h5 g hz with e | e | e
    · exact h.sep g hg e
    · exact (hy g e).2 hg
    · have := h.lts.2.2.2.1 g hg; omega
  · rcases e with e | e
    · exact .inl e
    · rcases h.nvn i e with e2 | e2
      · exact .inr (.inr (.inl e2))
      · omega
  · rcases h3 g hg with e | e
    · exact h.nvn g e
    · exact .inr (by omega)
  · rcases h5 k hk with e | e | e
    · exact h.zout k e
    · exact .inr (hy k e).1
    · exact .inr (by omega)
/-- The branch turns. -/
theorem Now.piece (h : Now W B rb bb s nv0 kv0 Z0 st b nv kvs kv Z w) {w' : World} {b2 : BrD} {kv' : Value} (hb : BrAt w' B bb b2 kv') (hu : Upd (fun j => j = bb ∨ kv.ownBlock = some j) w w') (hn : ∀ g, kv'.ownBlock = some g → kv.ownBlock = some g ∨ w.heap.size ≤ g) : Now W B rb bb s nv0 kv0 Z0 st b2 nv kvs kv' Z w' := by
  have hsz := h.upd.size
  refine ⟨h.rd.upd hu (fun e => e.elim (fun e => h.bbne.1 e.symm) (fun e => (h.kvne e).1 rfl)) (fun g hg e => e.elim (fun e => h.bbne.2.1 (by rw [hg, e])) (fun e => (h.kvne e).2.2 hg)) (fun k hk e => e.elim (fun e => h.bbne.2.2 (e ▸ hk)) (fun e => h.sep k e hk)), hb, fun g hg hz => ?_,
    h.upd.then hu (fun i hi e => ?_), h.nvn, fun g hg => ?_, h.zin, h.zout, h.base⟩
  · rcases hn g hg with e | e
    · exact h.sep g e hz
    · have := h.lts.2.2.2.2 g hz; omega
  · rcases e with e | e
    · exact .inr (.inl e)
    · rcases h.kvn i e with e2 | e2
      · exact .inr (.inr (.inr e2))
      · omega
  · rcases hn g hg with e | e
    · exact h.kvn g e
    · exact .inr (by omega)
theorem Now.bse (h : Now W B rb bb s nv0 kv0 Z0 st b nv kvs kv Z w) : B ≤ w.heap.size := Nat.le_trans h.base h.upd.size
/-- The branch's mark turns alone. -/
theorem Now.may (h : Now W B rb bb s nv0 kv0 Z0 st b nv kvs kv Z w) {w' : World} {m : Bool} (hk : w'.heap[bb]? = some (.cells #[kv, .bool m] 128 (0, 0))) (hu : Upd (fun k => k = bb) w w') : Now W B rb bb s nv0 kv0 Z0 st ⟨b.kids, m⟩ nv kvs kv Z w' :=
  h.piece (b2 := ⟨b.kids, m⟩) ⟨h.br.base, hk, ownsRow_upd h.br.own hu (fun g hg e => (h.kvne hg).2.1 e)⟩ (hu.mono (fun _ _ e => .inl e)) (fun _ hg => .inl hg)
theorem RdTo.upd {Y : Nat → Prop} {w' : World} (h : RdTo w B rb s nv Z Y st w') : Upd (fun k => k = rb ∨ nv.ownBlock = some k) w w' := by
  obtain ⟨nv', kvs', Z', h1, h2, h3, h4, h5⟩ := h
  exact h2
theorem tok_rd (h : RdAt w B rb s st nv kvs Z) {g : Nat} {cs : Array Value} {T : TypeId} {fr : Nat × Nat} (hk : w.heap[g]? = some (.cells cs T fr)) (h1 : T ≠ 96 := by decide) (h2 : T ≠ 113 := by decide) : ¬ (g = rb ∨ nv.ownBlock = some g) := by
  rintro (e | e)
  · rw [e, h.blk] at hk
    simp only [Option.some.injEq, Obj.cells.injEq] at hk
    exact h1 hk.2.1.symm
  · obtain ⟨cs2, hc2⟩ := ownBlock_node h.own e
    rw [hc2] at hk
    simp only [Option.some.injEq, Obj.cells.injEq] at hk
    exact h2 hk.2.1.symm
/-- Nothing that was known of places that are new is lost. -/
theorem Now.away (h : Now W B rb bb s nv0 kv0 Z0 st b nv kvs kv Z w) {g : Nat} (hg : w.heap.size ≤ g) : ¬ (g = rb ∨ nv.ownBlock = some g) ∧ ¬ (g = bb ∨ kv.ownBlock = some g) ∧ ¬ Z g ∧ kv.ownBlock ≠ some g := by
  obtain ⟨h1, h2, h3, h4, h5⟩ := h.lts
  exact ⟨fun e => e.elim (fun e => by omega) (fun e => by have := h3 g e; omega), fun e => e.elim (fun e => by omega) (fun e => by have := h4 g e; omega), fun e => by have := h5 g e; omega, fun e => by have := h4 g e; omega⟩
end
/-- What becomes of a reader and its branch. -/
def NowPost (W : World) (B rb bb : Nat) (s : ByteArray) (nv0 kv0 : Value) (Z0 : Nat → Prop) (st : RdD) (b : BrD) (w : World) : Prop := ∃ nv kvs kv Z, Now W B rb bb s nv0 kv0 Z0 st b nv kvs kv Z w
def DonePost (W : World) (B rb bb : Nat) (s : ByteArray) (nv0 kv0 : Value) (Z0 : Nat → Prop) (q : RdD × BrD) (e : Ending) (w : World) : Prop := e = .returned (.tuple #[]) ∧ NowPost W B rb bb s nv0 kv0 Z0 q.1 q.2 w
def LastPost (w : World) (B rb : Nat) (s : ByteArray) (st : RdD) (nv : Value) (Z : Nat → Prop) (e : Ending) (w' : World) : Prop :=
  e = .returned (.int .i64 ((st.node { op := 1 }).1 : Nat)) ∧ RdTo w B rb s nv Z (fun _ => False) (st.node { op := 1 }).2 w'
set_option maxRecDepth 100000 in
set_option maxHeartbeats 4000000 in
theorem last_any {w : World} {B rb : Nat} {s : ByteArray} {st : RdD} {nv : Value} {kvs : List Value} {Z : Nat → Prop} (h : RdAt w B rb s st nv kvs Z) (hB : B ≤ w.heap.size) (hl : st.nodes.length ≤ 401) :
    Calls Try.prog 88 #[.pointer (some ⟨rb, 0, none⟩)] w (LastPost w B rb s st nv Z) := by
  have HR := Lib.hid h
  have k0 := h.blk
  clear h
  have c0 := cells_of k0; (try simp only [rdC, nodeC, tokC, setC, zzT, zzO, zzS] at c0); have f0 := frees_of k0
  unfold LastPost
  go_enter Try.func88, Try.ntmps88
  go_wp2
  refine wp_loop_rounds 1 ?_
  rw [rounds_succ]
  go_wp2_with (go_at_call 63
               refine (row_any HR.out hB 5 [] (.slice none 0 0) (NatsAt.nil w none 0) (fun g hg => by simp [Value.ownBlock] at hg) hl (by simp)).mono ?_
               rintro e w' ⟨rfl, hT⟩)
  go_ret
  exact ⟨rfl, hT.mono (fun k hk => by simp [Value.ownBlock] at hk)⟩
end Go.Proofs.Ytigbfgmgdfnhcaa
