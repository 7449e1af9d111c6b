/- Contract of clone of package regs: the same, in its own memory; of no lines an empty one. -/
import Derived.Test.YtlhcojclfgbobaaRegB
namespace Go.Proofs.Ytlhcojclfgbobaa
open Go.RowKit

theorem false_upd {w w' : World} (h : Below w.heap.size w w') : Upd (fun _ => False) w w' := Upd.of_below h (fun _ h1 h2 => by omega)
theorem RegAt.upd {F : Nat → Prop} {w w' : World} {v : Value} {r : RegD} (h : RegAt w v r) (hu : Upd F w w') (hF : ∀ k, F k → ∀ o, w.cell? ⟨k, o, none⟩ = none) : RegAt w' v r := by
  obtain ⟨lv, rfl, a, cap, rfl, h⟩ := h
  refine ⟨_, rfl, a, cap, rfl, fun i hi => ?_⟩
  obtain ⟨b, o, rfl, hc⟩ := h i hi
  exact ⟨b, o, rfl, hu.cell hc (fun hf => by rw [hF b hf] at hc; cases hc)⟩
theorem RegAt.below {w w' : World} {v : Value} {r : RegD} (h : RegAt w v r) (hu : Below w.heap.size w w') : RegAt w' v r := h.upd (false_upd hu) (fun _ h => h.elim)

/-- A register that owns its lines. -/
def OwnReg (w : World) (base : Nat) (v : Value) (r : RegD) : Prop := ∃ lv, v = .agg #[lv, .bool r.whole] ∧ w.ownsRow base 9 1 lv r.lines.length (strsV r.lines)
theorem OwnReg.at {w : World} {base : Nat} {v : Value} {r : RegD} (h : OwnReg w base v r) : RegAt w v r := by
  obtain ⟨lv, rfl, h⟩ := h
  exact ⟨lv, rfl, StrsAt.of_owns h⟩

theorem heap_new2 (w : World) (o1 : Obj) (c : Array Value) (T : TypeId) : ((w.alloc o1).alloc (.cells c T)).heap[w.heap.size + 1]? = some (.cells c T (0, 0)) := by
  have := heap_alloc_new (w.alloc o1) (.cells c T)
  rwa [show (w.alloc o1).heap.size = w.heap.size + 1 by simp] at this
theorem heap_old {w : World} {b : Nat} {o : Obj} (h : w.heap[b]? = some o) (o2 : Obj) : (w.alloc o2).heap[b]? = some o := by
  rw [Below.heap_alloc _ _ _ (heap_lt h)]; exact h
theorem own_new (w : World) (x : Value) (e : TypeId) {base : Nat} (hb : base ≤ w.heap.size) : (w.alloc (.cells #[x] e)).ownsRow base e 1 (.slice (some ⟨w.heap.size, 0, none⟩) 1 1) 1 [x] :=
  ⟨rfl, .inr ⟨w.heap.size, 1, #[x], rfl, hb, heap_alloc_new w _, Nat.le_refl _, by unfold maxLen; omega, rfl, rfl⟩⟩
theorem below_two (w : World) (o1 o2 : Obj) : Below w.heap.size w ((w.alloc o1).alloc o2) := ((Below.refl _ _).alloc (Nat.le_refl _) _).alloc (by simp) _
theorem below_three (w : World) (o1 o2 o3 : Obj) : Below w.heap.size w (((w.alloc o1).alloc o2).alloc o3) := (below_two w o1 o2).alloc (by simp; omega) _

theorem RegD.clone_ne (r : RegD) : r.clone.lines ≠ [] := by unfold RegD.clone; split <;> simp_all

set_option maxHeartbeats 150000 in
set_option maxRecDepth 100000 in
theorem clone_any (v : Value) (r : RegD) (w : World) (h : RegAt w v r) (hl : r.lines.length ≤ 8796093021952) :
    Calls Try.prog 26 #[v] w fun e w' => ∃ u, e = .returned u ∧ OwnReg w' w.heap.size u r.clone ∧ Below w.heap.size w w' := by
  obtain ⟨lv, rfl, hs⟩ := h
  obtain ⟨xs, wh⟩ := r
  simp only at hs hl ⊢
  by_cases hn : xs = []
  · have hc : RegD.clone ⟨xs, wh⟩ = ⟨[[]], false⟩ := by simp [RegD.clone, hn]
    rw [hc]
    subst hn
    obtain ⟨a, cap, rfl, _⟩ := hs
    clear hc hl
    go_enter Try.func26, Try.ntmps26
    go_wp2_with fail
    have hH := heap_old (heap_new2 w (Obj.cells #[Value.slice a 0 cap, Value.bool wh] 24) #[Value.slice (some ⟨w.heap.size + 1 + 1, 0, none⟩) 1 1, Value.bool false] 24) (Obj.cells #[Value.string ⟨#[]⟩] 9)
    refine bodyPost_ret (v := .agg #[Value.slice (some ⟨w.heap.size + 1 + 1, 0, none⟩) 1 1, Value.bool false]) (results_cell_row Try.results26 _ _ (w.heap.size + 1) 24 _ (0, 0) _ rfl hH Try.underlying24 rfl (by kernel_rfl)) rfl ⟨_, rfl, ⟨_, rfl, ?_⟩, below_three _ _ _ _⟩
    have ho := own_new ((w.alloc (Obj.cells #[Value.slice a 0 cap, Value.bool wh] 24)).alloc (Obj.cells #[Value.slice (some ⟨w.heap.size + 1 + 1, 0, none⟩) 1 1, Value.bool false] 24)) (Value.string ⟨#[]⟩) 9 (base := w.heap.size) (by simp; omega)
    simpa [strsV, strV] using ho
  · have hc : RegD.clone ⟨xs, wh⟩ = ⟨xs, wh⟩ := by simp [RegD.clone, hn]
    rw [hc]
    obtain ⟨b, o, cap, rfl, hcell⟩ := hs.form hn
    have hpos : 0 < xs.length := List.length_pos_iff.2 hn
    have A := Lib.hid hcell
    clear hc hn hs hcell
    go_enter Try.func26, Try.ntmps26
    go_wp2_with
     (go_at_call 39
      have hB := below_two w (Obj.cells #[Value.slice (some ⟨b, o, none⟩) xs.length cap, Value.bool wh] 24) (Obj.cells #[Value.slice none 0 0, Value.bool false] 24)
      have h0 := heap_old (heap_alloc_new w (Obj.cells #[Value.slice (some ⟨b, o, none⟩) xs.length cap, Value.bool wh] 24)) (Obj.cells #[Value.slice none 0 0, Value.bool false] 24)
      have h1 := heap_new2 w (Obj.cells #[Value.slice (some ⟨b, o, none⟩) xs.length cap, Value.bool wh] 24) #[Value.slice none 0 0, Value.bool false] 24
      have hs : ((w.alloc (Obj.cells #[Value.slice (some ⟨b, o, none⟩) xs.length cap, Value.bool wh] 24)).alloc (Obj.cells #[Value.slice none 0 0, Value.bool false] 24)).heap.size = w.heap.size + 2 := by simp
      generalize (w.alloc (Obj.cells #[Value.slice (some ⟨b, o, none⟩) xs.length cap, Value.bool wh] 24)).alloc (Obj.cells #[Value.slice none 0 0, Value.bool false] 24) = W at *
      refine (SClone_any b o xs.length cap xs W rfl (by omega) (fun i hi => (false_upd hB).cell (A.out i hi) (fun h => h))).mono ?_
      rintro e w3 ⟨v', rfl, ho, hb⟩
      rw [hs] at ho
      replace h0 := (false_upd hb).heap h0 (fun h => h)
      replace h1 := (false_upd hb).heap h1 (fun h => h)
      have hB3 := hB.trans (hb.mono (by omega))
      obtain ⟨g, cg, rfl, hg0, hg1⟩ := ho.form hpos
      have c0 := cell_of h0 0 (v := .slice (some ⟨b, o, none⟩) xs.length cap) rfl
      have f0 := free_of h0 0
      have c1 := cell_of h0 1 (v := .bool wh) rfl
      have d0 := cell_of h1 0 (v := .slice none 0 0) rfl
      have d1 := cell_of h1 1 (v := .bool false) rfl
      have g0 := free_of h1 0
      have g1 := free_of h1 1)
    have k1 := heap_set (heap_set ((heap_set_ne (w := w3) (b := w.heap.size) (c := w.heap.size + 1) 0 (Value.slice (some ⟨g, 0, none⟩) xs.length cg) (by omega)).trans h1) 0 (Value.slice (some ⟨g, 0, none⟩) xs.length cg)) 1 (Value.bool wh)
    refine bodyPost_ret (v := .agg #[Value.slice (some ⟨g, 0, none⟩) xs.length cg, Value.bool wh]) (results_cell_row Try.results26 _ _ (w.heap.size + 1) 24 _ (0, 0) _ rfl k1 Try.underlying24 rfl (by kernel_rfl)) rfl ⟨_, rfl, ⟨_, rfl, ?_⟩, ?_⟩
    · have e := fun (k : Nat) (hk : k < w.heap.size + 2) => (show (Value.slice (some ⟨g, 0, none⟩) xs.length cg).ownBlock ≠ some k by simp [Value.ownBlock]; omega)
      exact ownsRow_set (ownsRow_set (ownsRow_set (ownsRow_base ho (fun j hj => by have := (ho.lt j hj).1; omega)) (e _ (by omega)) _) (e _ (by omega)) _) (e _ (by omega)) _
    · exact ((hB3.setCell (Nat.le_refl _) _).setCell (Nat.le_succ _) _).setCell (Nat.le_succ _) _
end Go.Proofs.Ytlhcojclfgbobaa
