/- Lemmas that the law's proof stands on, part 2: Walk, Tlib, Te. No condition. -/
import Derived.Test.YtmklapbecdhnmaaBaseA0
import Derived.Great.Walk
import Derived.Test.YtmklapbecdhnmaaBaseA1
set_option linter.all false
set_option linter.unusedVariables false
set_option linter.unusedSimpArgs false
namespace Go.Proofs.Ytmklapbecdhnmaa
open Go.RowKit
theorem cells_of {w : World} {b : Nat} {cs : Array Value} {T : TypeId} {fr : Nat × Nat} (h : w.heap[b]? = some (.cells cs T fr)) : ∀ i, w.cell? ⟨b, i, none⟩ = cs[i]? := fun i => by simp [World.cell?, h]
section
variable {P : Program} {ops : Array Oper} {rest : List Oper} {op : Oper} {a : Act} {w : World} {Q : Exit → Act → World → Prop}
theorem stopAl (ty : TypeId) (ho : op.op = .alloc ty) (h : Stop (wpList P ops Q (op :: rest) a w)) : wpList P ops Q (op :: rest) a w := h
theorem stopBx (ty : TypeId) (x : Operand) (ho : op.op = .box ty x) (h : Stop (wpList P ops Q (op :: rest) a w)) : wpList P ops Q (op :: rest) a w := h
theorem new_facts (w : World) (o : Obj) : (w.alloc o).heap[w.heap.size]? = some o ∧ Upd (fun _ => False) w (w.alloc o) ∧ (w.alloc o).heap.size = w.heap.size + 1 :=
  ⟨heap_alloc_new w o, (Upd.refl _ w).alloc o, by simp⟩
theorem wpList_alloc_blk (hgd : op.guard = none) (ty : TypeId) (ho : op.op = .alloc ty) (z : Value) (hz : (P.info? ty).map (·.zero) = some (some z)) (Z : Array Value) (hZ : z.cells = Z)
    (h : ∀ b w', w.heap.size = b → w'.heap[b]? = some (.cells Z ty (0, 0)) → Upd (fun _ => False) w w' → w'.heap.size = b + 1 → wpList P ops Q rest (a.put op.dst (.pointer (some ⟨b, 0, none⟩))) w') : wpList P ops Q (op :: rest) a w := by
  subst hZ
  refine wpList_plain hgd fun K hK => ?_
  have hz2 : (zeroValue ty).run P w = .ok z w := by
    cases hi : P.info? ty with
    | none => simp [hi] at hz
    | some i =>
      simp only [hi, Option.map_some, Option.some.injEq] at hz
      simp [zeroValue, typeInfo, hi, hz, Sem.run_bind, Result.andThen]
  unfold Oper.wp execOp
  simp only [ho, Instr.alloc, Sem.run_bind, hz2, Result.andThen_ok, newVar, newRow, run_newObj_alloc, Sem.run_pure]
  obtain ⟨g1, g2, g3⟩ := new_facts w (.cells z.cells ty)
  exact hK _ _ (h _ _ rfl g1 g2 g3)
theorem wpList_box_blk (hgd : op.guard = none) (ty : TypeId) (x : Operand) (ho : op.op = .box ty x) (v : Value) (hx : a.eval x = v) (Z : Array Value) (hZ : v.cells = Z)
    (h : ∀ b w', w.heap.size = b → w'.heap[b]? = some (.cells Z ty (0, 0)) → Upd (fun _ => False) w w' → w'.heap.size = b + 1 → wpList P ops Q rest (a.put op.dst (.pointer (some ⟨b, 0, none⟩))) w') : wpList P ops Q (op :: rest) a w := by
  subst hZ hx
  refine wpList_plain hgd fun K hK => ?_
  unfold Oper.wp execOp
  simp only [ho, Sem.run_bind, Instr.box, newVar, newRow, run_newObj_alloc, Sem.run_pure, Result.andThen_ok]
  obtain ⟨g1, g2, g3⟩ := new_facts w (.cells (a.eval x).cells ty)
  exact hK _ _ (h _ _ rfl g1 g2 g3)
theorem wpList_sliceLit_blk (hgd : op.guard = none) (t e : TypeId) (len : Nat) (parts : Array (Nat × Operand)) (ho : op.op = .buildSlice t len parts) (hu : P.underlying t = some (.slice e)) (Z : Array Value)
    (hf : P.builtSlice e len (parts.map fun (i, x) => (i, a.eval x)).toList = some Z)
    (h : ∀ b w', w.heap.size = b → w'.heap[b]? = some (.cells Z e (0, 0)) → Upd (fun _ => False) w w' → w'.heap.size = b + 1 → wpList P ops Q rest (a.put op.dst (.slice (some ⟨b, 0, none⟩) len len)) w') : wpList P ops Q (op :: rest) a w := by
  refine Great.wpList_buildSliceTo hgd t e len parts ho w.heap.size rfl op.dst rfl hu Z hf ?_
  obtain ⟨g1, g2, g3⟩ := new_facts w (.cells Z e)
  exact h _ _ rfl g1 g2 g3
end
end Go.Proofs.Ytmklapbecdhnmaa
namespace Go.Proofs.Ytmklapbecdhnmaa
open Go.RowKit
theorem spl_list : ∀ (vs : List Value) (C : Array Value) (o : Nat), o + vs.length ≤ C.size → (spl C o vs).toList = C.toList.take o ++ vs ++ C.toList.drop (o + vs.length) ∧ (spl C o vs).size = C.size
  | [], C, o, h => by simp [spl]
  | v :: r, C, o, h => by
    simp only [List.length_cons] at h
    obtain ⟨h1, h2⟩ := spl_list r (C.setIfInBounds o v) (o + 1) (by simp; omega)
    unfold spl
    refine ⟨?_, by rw [h2]; simp⟩
    rw [h1]
    simp only [Array.toList_setIfInBounds]
    have hl : o < C.toList.length := by simp; omega
    rw [List.drop_set_of_lt (by omega), List.take_succ_eq_append_getElem (by simpa using hl)]
    rw [List.take_set_of_le (Nat.le_refl _)]
    simp
    congr 1
    omega
theorem strsC_one (l : List ByteArray) : ∀ u ∈ l.map Value.string, u.oneCell' = true := fun u hu => by
  obtain ⟨s, _, rfl⟩ := List.mem_map.1 hu
  rfl
def strsC (l : List ByteArray) : List Value := l.map Value.string
def natV (n : Nat) : Value := .int .i64 (n : Int)
def natsC (l : List Nat) : List Value := l.map natV
theorem strsC_ones (l : List ByteArray) : ∀ u ∈ strsC l, u.oneCell' = true := strsC_one l
theorem natsC_ones (l : List Nat) : ∀ u ∈ natsC l, u.oneCell' = true := fun u hu => by
  obtain ⟨s, _, rfl⟩ := List.mem_map.1 hu
  rfl
theorem insL_map {α β : Type} (f : α → β) (l : List α) (i : Nat) (x : α) : (insL l i x).map f = insL (l.map f) i (f x) := by simp [insL, List.map_take, List.map_drop]
theorem delL_map {α β : Type} (f : α → β) (l : List α) (i : Nat) : (delL l i).map f = delL (l.map f) i := by simp [delL, List.map_take, List.map_drop]
theorem insL_end {α : Type} (l : List α) (x : α) : insL l l.length x = l ++ [x] := by simp [insL]
theorem insL_lens {α : Type} (l : List α) (i : Nat) (x : α) : (insL l i x).length = l.length + 1 := by
  unfold insL
  rw [List.length_append, List.length_cons, List.length_take, List.length_drop]
  omega
theorem Upd.drawn {F : Nat → Prop} {w w' : World} (h : Upd F w.drew w') : Upd F w w' := ⟨h.os, h.tape, h.output, h.size, h.block⟩
theorem Upd.drawnN {F : Nat → Prop} {w w' : World} {q : Nat} (h : Upd F (w.drewN q) w') : Upd F w w' := ⟨h.os, h.tape, h.output, h.size, h.block⟩
theorem Row.of_cells {w : World} {e : TypeId} {g n c : Nat} {xs : List Value} {cur : Array Value} (hg : w.heap[g]? = some (.cells cur e (0, 0))) (hx : cur.toList.take n = xs) (hn : xs.length = n) (hc : n ≤ c) (hs : c ≤ cur.size) (hm : c ≤ maxLen) : Row w e (.slice (some ⟨g, 0, none⟩) n c) xs :=
  .inr ⟨g, c, cur, by rw [hn], hg, by omega, hs, hm, by rw [hn]; exact hx⟩
theorem take_shift (C cs : List Value) (i : Nat) (u : Value) (hC : C.take cs.length = cs) (hl : cs.length + 1 ≤ C.length) (hi : i ≤ cs.length) :
    (((C.take (i + 1) ++ cs.drop i ++ C.drop (i + 1 + (cs.drop i).length)).take i ++ [u] ++ (C.take (i + 1) ++ cs.drop i ++ C.drop (i + 1 + (cs.drop i).length)).drop (i + 1))).take (cs.length + 1) = insL cs i u := by
  have e0 : cs.take i = C.take i := by
    conv => lhs; rw [← hC]
    rw [List.take_take, Nat.min_eq_left hi]
  have e1 : (C.take (i + 1) ++ cs.drop i ++ C.drop (i + 1 + (cs.drop i).length)).take i = cs.take i := by
    rw [List.append_assoc, List.take_append_of_le_length (by rw [List.length_take]; omega), List.take_take, show min i (i + 1) = i by omega, e0]
  have e2 : (C.take (i + 1) ++ cs.drop i ++ C.drop (i + 1 + (cs.drop i).length)).drop (i + 1) = cs.drop i ++ C.drop (i + 1 + (cs.drop i).length) := by
    rw [List.append_assoc, List.drop_append, List.drop_eq_nil_of_le (by rw [List.length_take]; omega), List.length_take, show i + 1 - min (i + 1) C.length = 0 by omega]
    rfl
  rw [e1, e2]
  unfold insL
  have e3 : (cs.take i ++ [u]).length = i + 1 := by rw [List.length_append, List.length_take]; simp; omega
  rw [List.take_append, List.take_of_length_le (by omega), e3, List.append_assoc]
  congr 1
  rw [List.take_append, List.take_of_length_le (by rw [List.length_drop]; omega), List.length_drop, show cs.length + 1 - (i + 1) - (cs.length - i) = 0 by omega]
  simp
set_option maxRecDepth 100000 in
/-- slices.Insert of one. -/
theorem insS_any {w : World} {v : Value} {cs : List Value} (h : Row w 9 v cs) (h1 : ∀ u ∈ cs, u.oneCell' = true) (i : Nat) (hi : i ≤ cs.length) (u : Value) (hu : u.oneCell' = true) (vb : Nat) (hb : w.heap[vb]? = some (.cells #[u] 9 (0, 0))) (hne : v.ownBlock ≠ some vb) (hl : cs.length ≤ 100000) :
    Calls Try.prog 45 #[v, .int .i64 (i : Int), .slice (some ⟨vb, 0, none⟩) 1 1] w fun e w' => ∃ v', e = .returned v' ∧ Row w' 9 v' (insL cs i u) ∧ Upd (fun b => v.ownBlock = some b) w w' ∧ Near w v v' := by
  have hvs : ∀ j x, [u][j]? = some x → w.cell? ⟨vb, 0 + j, none⟩ = some x := fun j x hj => by
    rw [Nat.zero_add]
    exact cell_of hb j (by simpa using hj)
  have h1v : ∀ x ∈ [u], x.oneCell' = true := fun x hx => by
    have : x = u := by simpa using hx
    rw [this]; exact hu
  have h0 : w.heap.size ≤ w.heap.size := Nat.le_refl _
  have one_size : (Value.string ⟨#[]⟩).cells.size = 1 := rfl
  rcases h with ⟨rfl, rfl⟩ | ⟨b, c, cur, rfl, hg, hnc, hcs, hcm, htake⟩
  · obtain rfl : i = 0 := by simpa using hi
    refine (Any2.slices_Insert_string_end_grow Try.lays22 none 0 0 vb 0 1 1 [] [u] w (by decide) (Nat.le_refl _) (by decide) (by decide) rfl rfl (fun _ => rfl) (fun a ha => by cases ha) hvs h1v).mono ?_
    rintro e w' ⟨rfl, rfl⟩
    rw [show Try.lays22_ren.t 9 = 9 from rfl]
    have hge := grownCap_ge w (0 + 1) 0 9
    have hcm2 : grownCap w (0 + 1) 0 9 ≤ maxLen := grownCap_le_maxLen w (0 + 1) 0 9 (by decide)
    refine ⟨_, rfl, .of_cells (heap_alloc_new w.drew _) ?_ (insL_lens [] 0 u) hge ?_ hcm2, ⟨rfl, rfl, rfl, by simp, fun k hk _ => Below.heap_alloc w.drew _ k hk⟩, fun b hb => .inr ?_⟩
    · simp [insL]
    · show _ ≤ (([u].toArray ++ Builtin.zeroCells (Value.string ⟨#[]⟩).cells (grownCap w (0 + 1) 0 9 - (0 + 1))) : Array Value).size
      simp only [Array.size_append, List.size_toArray, size_zeroCells, one_size, List.length_cons, List.length_nil]
      omega
    · simp only [Value.ownBlock, Option.some.injEq] at hb
      omega
  · have hcells : ∀ j x, cs[j]? = some x → w.cell? ⟨b, 0 + j, none⟩ = some x := fun j x hj => by
      have := Row.cell (e := 9) (n := cs.length) (c := c) (.inr ⟨b, c, cur, rfl, hg, hnc, hcs, hcm, htake⟩) j x hj
      rwa [Addr.add_lit] at this
    have hvb : vb ≠ b := fun e => hne (by rw [e]; rfl)
    have hcl : cs.length ≤ cur.size := by omega
    have hctl : cur.toList.length = cur.size := by simp
    have e1 : (cs.length : Int) = ((cs.length : Nat) : Int) := rfl
    by_cases hin : i < cs.length
    · by_cases hroom : cs.length + 1 ≤ c
      · have hsp : ∀ j, j < cs.length + 1 → (w.cell? ⟨b, 0 + j, none⟩).isSome = true := fun j hj => by
          rw [Nat.zero_add, cells_of hg j, Array.getElem?_eq_getElem (by omega)]
          rfl
        refine (Any2.slices_Insert_string_shift Try.lays22 b 0 cs.length c i vb 0 1 1 cs [u] w hin (by decide) hroom (by unfold maxLen at hcm; exact hcm) hvb rfl rfl hcells hsp (fun j _ => free_of hg _) hvs h1 h1v 9 9 1 cur.size (by unfold World.shape?; rw [hb]; rfl) (by unfold World.shape?; rw [hg]) (by omega) (free_of hb _) (free_of hb _)).mono ?_
        rintro e w' ⟨rfl, rfl⟩
        obtain ⟨a1, a2, a3⟩ := heap_setCells (cs.drop i) (0 + (i + 1)) w.drew cur hg
        obtain ⟨b1, b2, b3⟩ := heap_setCells [u] (0 + i) _ _ a1
        obtain ⟨s1, s2⟩ := spl_list (cs.drop i) cur (0 + (i + 1)) (by simp; omega)
        obtain ⟨s3, s4⟩ := spl_list [u] (spl cur (0 + (i + 1)) (cs.drop i)) (0 + i) (by rw [s2]; simp; omega)
        refine ⟨_, rfl, .of_cells b1 ?_ (insL_lens cs i u) hroom (by rw [s4, s2]; exact hcs) hcm, (Upd.drawn (a2.then b2 (fun _ _ h => h))).mono (fun k _ e => by rw [e]; rfl), Near.refl _ _⟩
        rw [s3, s1]
        simp only [Nat.zero_add]
        exact take_shift cur.toList cs i u htake (by omega) hi
      · refine (Any2.slices_Insert_string_grow Try.lays22 b 0 cs.length c i vb 0 1 1 cs [u] w hin (by decide) hnc (by omega) (by omega) rfl rfl hcells hvs h1 h1v).mono ?_
        rintro e w' ⟨rfl, rfl⟩
        have hge := grownCap_ge w (cs.length + 1) c 9
        have hcm2 : grownCap w (cs.length + 1) c 9 ≤ maxLen := grownCap_le_maxLen w (cs.length + 1) c 9 (by unfold maxLen; omega)
        obtain ⟨C0, hC0⟩ : ∃ C0, (cs.take i).toArray ++ Builtin.zeroCells (Value.string ⟨#[]⟩).cells (cs.length + 1 - i) ++ Builtin.zeroCells (Value.string ⟨#[]⟩).cells (grownCap w (cs.length + 1) c 9 - (cs.length + 1)) = C0 := ⟨_, rfl⟩
        have hC0s : C0.size = grownCap w (cs.length + 1) c 9 := by
          rw [← hC0]
          simp only [Array.size_append, List.size_toArray, size_zeroCells, one_size, List.length_take]
          omega
        have hC0t : C0.toList.take i = cs.take i := by
          rw [← hC0]
          simp only [Array.toList_append, List.append_assoc]
          exact List.take_left' (by simp; omega)
        have hn := heap_alloc_new w (.cells C0 9)
        rw [show Try.lays22_ren.t 9 = 9 from rfl, hC0]
        obtain ⟨a1, a2, a3⟩ := heap_setCells [u] i (w.alloc (.cells C0 9)).drew C0 hn
        obtain ⟨b1, b2, b3⟩ := heap_setCells (cs.drop i) (i + 1) ((w.alloc (.cells C0 9)).drew.setCells w.heap.size i [u]).drew _ a1
        obtain ⟨s1, s2⟩ := spl_list [u] C0 i (by rw [hC0s]; simp; omega)
        obtain ⟨s3, s4⟩ := spl_list (cs.drop i) (spl C0 i [u]) (i + 1) (by rw [s2, hC0s]; simp; omega)
        have hU : Upd (fun k => k = w.heap.size) (w.alloc (.cells C0 9)) _ := Upd.drawn (a2.then (Upd.drawn b2) (fun _ _ h => h))
        refine ⟨_, rfl, .of_cells b1 ?_ (insL_lens cs i u) hge (by rw [s4, s2, hC0s]; exact Nat.le_refl _) hcm2, ((Upd.refl _ w).alloc _).then hU (fun k hk e => by omega), fun g hg2 => .inr ?_⟩
        · rw [s3, s1]
          unfold insL
          have e5 : (C0.toList.take i ++ [u] ++ C0.toList.drop (i + [u].length)).take (i + 1) = cs.take i ++ [u] := by
            rw [hC0t, List.take_append_of_le_length (by simp; omega), List.take_of_length_le (by simp; omega)]
          rw [e5, List.append_assoc, List.append_assoc, ← List.append_assoc, ← List.append_assoc]
          refine (List.take_left' ?_).trans ?_
          · simp; omega
          · simp
        · simp only [Value.ownBlock, Option.some.injEq] at hg2
          omega
    · obtain rfl : i = cs.length := by omega
      rw [insL_end]
      by_cases hroom : cs.length + 1 ≤ c
      · refine (Any2.slices_Insert_string_end_room Try.lays22 b 0 cs.length c vb 0 1 1 [u] w (by decide) hroom (by unfold maxLen at hcm; exact hcm) rfl (fun j hj => ?_) (fun j _ => free_of hg _) hvs h1v).mono ?_
        · rw [cells_of hg, Array.getElem?_eq_getElem (by omega)]
          rfl
        · rintro e w' ⟨rfl, rfl⟩
          obtain ⟨b1, b2, b3⟩ := heap_setCells [u] (0 + cs.length) w cur hg
          obtain ⟨s3, s4⟩ := spl_list [u] cur (0 + cs.length) (by simp; omega)
          refine ⟨_, rfl, .of_cells b1 ?_ (by simp) hroom (by rw [s4]; exact hcs) hcm, b2.mono (fun k _ e => by rw [e]; rfl), Near.refl _ _⟩
          rw [s3, Nat.zero_add, htake]
          exact List.take_left' (by simp)
      · refine (Any2.slices_Insert_string_end_grow Try.lays22 (some ⟨b, 0, none⟩) cs.length c vb 0 1 1 cs [u] w (by decide) hnc (by omega) (by omega) rfl rfl (fun h => by cases h) (fun a ha => ?_) hvs h1v).mono ?_
        · injection ha with ha
          subst ha
          intro j x hj
          rw [Addr.add_lit]
          exact hcells j x hj
        · rintro e w' ⟨rfl, rfl⟩
          rw [show Try.lays22_ren.t 9 = 9 from rfl]
          have hge := grownCap_ge w (cs.length + 1) c 9
          have hcm2 : grownCap w (cs.length + 1) c 9 ≤ maxLen := grownCap_le_maxLen w (cs.length + 1) c 9 (by unfold maxLen; omega)
          refine ⟨_, rfl, .of_cells (heap_alloc_new w.drew _) ?_ (by simp) hge ?_ hcm2, ⟨rfl, rfl, rfl, by simp, fun k hk _ => Below.heap_alloc w.drew _ k hk⟩, fun g hg2 => .inr ?_⟩
          · rw [Array.toList_append]
            exact List.take_left' (by simp)
          · show _ ≤ ((cs ++ [u]).toArray ++ Builtin.zeroCells (Value.string ⟨#[]⟩).cells (grownCap w (cs.length + 1) c 9 - (cs.length + 1)) : Array Value).size
            simp only [Array.size_append, List.size_toArray, size_zeroCells, one_size, List.length_append, List.length_cons, List.length_nil]
            omega
          · simp only [Value.ownBlock, Option.some.injEq] at hg2
            omega
set_option maxRecDepth 100000 in
/-- slices.Insert of one. -/
theorem insI_any {w : World} {v : Value} {cs : List Value} (h : Row w 3 v cs) (h1 : ∀ u ∈ cs, u.oneCell' = true) (i : Nat) (hi : i ≤ cs.length) (u : Value) (hu : u.oneCell' = true) (vb : Nat) (hb : w.heap[vb]? = some (.cells #[u] 3 (0, 0))) (hne : v.ownBlock ≠ some vb) (hl : cs.length ≤ 100000) :
    Calls Try.prog 47 #[v, .int .i64 (i : Int), .slice (some ⟨vb, 0, none⟩) 1 1] w fun e w' => ∃ v', e = .returned v' ∧ Row w' 3 v' (insL cs i u) ∧ Upd (fun b => v.ownBlock = some b) w w' ∧ Near w v v' := by
  have hvs : ∀ j x, [u][j]? = some x → w.cell? ⟨vb, 0 + j, none⟩ = some x := fun j x hj => by
    rw [Nat.zero_add]
    exact cell_of hb j (by simpa using hj)
  have h1v : ∀ x ∈ [u], x.oneCell' = true := fun x hx => by
    have : x = u := by simpa using hx
    rw [this]; exact hu
  have h0 : w.heap.size ≤ w.heap.size := Nat.le_refl _
  have one_size : (Value.int .i64 0).cells.size = 1 := rfl
  rcases h with ⟨rfl, rfl⟩ | ⟨b, c, cur, rfl, hg, hnc, hcs, hcm, htake⟩
  · obtain rfl : i = 0 := by simpa using hi
    refine (Any2.slices_Insert_int_end_grow Try.lays21 none 0 0 vb 0 1 1 [] [u] w (by decide) (Nat.le_refl _) (by decide) (by decide) rfl rfl (fun _ => rfl) (fun a ha => by cases ha) hvs h1v).mono ?_
    rintro e w' ⟨rfl, rfl⟩
    rw [show Try.lays21_ren.t 3 = 3 from rfl]
    have hge := grownCap_ge w (0 + 1) 0 3
    have hcm2 : grownCap w (0 + 1) 0 3 ≤ maxLen := grownCap_le_maxLen w (0 + 1) 0 3 (by decide)
    refine ⟨_, rfl, .of_cells (heap_alloc_new w.drew _) ?_ (insL_lens [] 0 u) hge ?_ hcm2, ⟨rfl, rfl, rfl, by simp, fun k hk _ => Below.heap_alloc w.drew _ k hk⟩, fun b hb => .inr ?_⟩
    · simp [insL]
    · show _ ≤ (([u].toArray ++ Builtin.zeroCells (Value.int .i64 0).cells (grownCap w (0 + 1) 0 3 - (0 + 1))) : Array Value).size
      simp only [Array.size_append, List.size_toArray, size_zeroCells, one_size, List.length_cons, List.length_nil]
      omega
    · simp only [Value.ownBlock, Option.some.injEq] at hb
      omega
  · have hcells : ∀ j x, cs[j]? = some x → w.cell? ⟨b, 0 + j, none⟩ = some x := fun j x hj => by
      have := Row.cell (e := 3) (n := cs.length) (c := c) (.inr ⟨b, c, cur, rfl, hg, hnc, hcs, hcm, htake⟩) j x hj
      rwa [Addr.add_lit] at this
    have hvb : vb ≠ b := fun e => hne (by rw [e]; rfl)
    have hcl : cs.length ≤ cur.size := by omega
    have hctl : cur.toList.length = cur.size := by simp
    have e1 : (cs.length : Int) = ((cs.length : Nat) : Int) := rfl
    by_cases hin : i < cs.length
    · by_cases hroom : cs.length + 1 ≤ c
      · have hsp : ∀ j, j < cs.length + 1 → (w.cell? ⟨b, 0 + j, none⟩).isSome = true := fun j hj => by
          rw [Nat.zero_add, cells_of hg j, Array.getElem?_eq_getElem (by omega)]
          rfl
        refine (Any2.slices_Insert_int_shift Try.lays21 b 0 cs.length c i vb 0 1 1 cs [u] w hin (by decide) hroom (by unfold maxLen at hcm; exact hcm) hvb rfl rfl hcells hsp (fun j _ => free_of hg _) hvs h1 h1v 3 3 1 cur.size (by unfold World.shape?; rw [hb]; rfl) (by unfold World.shape?; rw [hg]) (by omega) (free_of hb _) (free_of hb _)).mono ?_
        rintro e w' ⟨rfl, rfl⟩
        obtain ⟨a1, a2, a3⟩ := heap_setCells (cs.drop i) (0 + (i + 1)) w.drew cur hg
        obtain ⟨b1, b2, b3⟩ := heap_setCells [u] (0 + i) _ _ a1
        obtain ⟨s1, s2⟩ := spl_list (cs.drop i) cur (0 + (i + 1)) (by simp; omega)
        obtain ⟨s3, s4⟩ := spl_list [u] (spl cur (0 + (i + 1)) (cs.drop i)) (0 + i) (by rw [s2]; simp; omega)
        refine ⟨_, rfl, .of_cells b1 ?_ (insL_lens cs i u) hroom (by rw [s4, s2]; exact hcs) hcm, (Upd.drawn (a2.then b2 (fun _ _ h => h))).mono (fun k _ e => by rw [e]; rfl), Near.refl _ _⟩
        rw [s3, s1]
        simp only [Nat.zero_add]
        exact take_shift cur.toList cs i u htake (by omega) hi
      · refine (Any2.slices_Insert_int_grow Try.lays21 b 0 cs.length c i vb 0 1 1 cs [u] w hin (by decide) hnc (by omega) (by omega) rfl rfl hcells hvs h1 h1v).mono ?_
        rintro e w' ⟨rfl, rfl⟩
        have hge := grownCap_ge w (cs.length + 1) c 3
        have hcm2 : grownCap w (cs.length + 1) c 3 ≤ maxLen := grownCap_le_maxLen w (cs.length + 1) c 3 (by unfold maxLen; omega)
        obtain ⟨C0, hC0⟩ : ∃ C0, (cs.take i).toArray ++ Builtin.zeroCells (Value.int .i64 0).cells (cs.length + 1 - i) ++ Builtin.zeroCells (Value.int .i64 0).cells (grownCap w (cs.length + 1) c 3 - (cs.length + 1)) = C0 := ⟨_, rfl⟩
        have hC0s : C0.size = grownCap w (cs.length + 1) c 3 := by
          rw [← hC0]
          simp only [Array.size_append, List.size_toArray, size_zeroCells, one_size, List.length_take]
          omega
        have hC0t : C0.toList.take i = cs.take i := by
          rw [← hC0]
          simp only [Array.toList_append, List.append_assoc]
          exact List.take_left' (by simp; omega)
        have hn := heap_alloc_new w (.cells C0 3)
        rw [show Try.lays21_ren.t 3 = 3 from rfl, hC0]
        obtain ⟨a1, a2, a3⟩ := heap_setCells [u] i (w.alloc (.cells C0 3)).drew C0 hn
        obtain ⟨b1, b2, b3⟩ := heap_setCells (cs.drop i) (i + 1) ((w.alloc (.cells C0 3)).drew.setCells w.heap.size i [u]).drew _ a1
        obtain ⟨s1, s2⟩ := spl_list [u] C0 i (by rw [hC0s]; simp; omega)
        obtain ⟨s3, s4⟩ := spl_list (cs.drop i) (spl C0 i [u]) (i + 1) (by rw [s2, hC0s]; simp; omega)
        have hU : Upd (fun k => k = w.heap.size) (w.alloc (.cells C0 3)) _ := Upd.drawn (a2.then (Upd.drawn b2) (fun _ _ h => h))
        refine ⟨_, rfl, .of_cells b1 ?_ (insL_lens cs i u) hge (by rw [s4, s2, hC0s]; exact Nat.le_refl _) hcm2, ((Upd.refl _ w).alloc _).then hU (fun k hk e => by omega), fun g hg2 => .inr ?_⟩
        · rw [s3, s1]
          unfold insL
          have e5 : (C0.toList.take i ++ [u] ++ C0.toList.drop (i + [u].length)).take (i + 1) = cs.take i ++ [u] := by
            rw [hC0t, List.take_append_of_le_length (by simp; omega), List.take_of_length_le (by simp; omega)]
          rw [e5, List.append_assoc, List.append_assoc, ← List.append_assoc, ← List.append_assoc]
          refine (List.take_left' ?_).trans ?_
          · simp; omega
          · simp
        · simp only [Value.ownBlock, Option.some.injEq] at hg2
          omega
    · obtain rfl : i = cs.length := by omega
      rw [insL_end]
      by_cases hroom : cs.length + 1 ≤ c
      · refine (Any2.slices_Insert_int_end_room Try.lays21 b 0 cs.length c vb 0 1 1 [u] w (by decide) hroom (by unfold maxLen at hcm; exact hcm) rfl (fun j hj => ?_) (fun j _ => free_of hg _) hvs h1v).mono ?_
        · rw [cells_of hg, Array.getElem?_eq_getElem (by omega)]
          rfl
        · rintro e w' ⟨rfl, rfl⟩
          obtain ⟨b1, b2, b3⟩ := heap_setCells [u] (0 + cs.length) w cur hg
          obtain ⟨s3, s4⟩ := spl_list [u] cur (0 + cs.length) (by simp; omega)
          refine ⟨_, rfl, .of_cells b1 ?_ (by simp) hroom (by rw [s4]; exact hcs) hcm, b2.mono (fun k _ e => by rw [e]; rfl), Near.refl _ _⟩
          rw [s3, Nat.zero_add, htake]
          exact List.take_left' (by simp)
      · refine (Any2.slices_Insert_int_end_grow Try.lays21 (some ⟨b, 0, none⟩) cs.length c vb 0 1 1 cs [u] w (by decide) hnc (by omega) (by omega) rfl rfl (fun h => by cases h) (fun a ha => ?_) hvs h1v).mono ?_
        · injection ha with ha
          subst ha
          intro j x hj
          rw [Addr.add_lit]
          exact hcells j x hj
        · rintro e w' ⟨rfl, rfl⟩
          rw [show Try.lays21_ren.t 3 = 3 from rfl]
          have hge := grownCap_ge w (cs.length + 1) c 3
          have hcm2 : grownCap w (cs.length + 1) c 3 ≤ maxLen := grownCap_le_maxLen w (cs.length + 1) c 3 (by unfold maxLen; omega)
          refine ⟨_, rfl, .of_cells (heap_alloc_new w.drew _) ?_ (by simp) hge ?_ hcm2, ⟨rfl, rfl, rfl, by simp, fun k hk _ => Below.heap_alloc w.drew _ k hk⟩, fun g hg2 => .inr ?_⟩
          · rw [Array.toList_append]
            exact List.take_left' (by simp)
          · show _ ≤ ((cs ++ [u]).toArray ++ Builtin.zeroCells (Value.int .i64 0).cells (grownCap w (cs.length + 1) c 3 - (cs.length + 1)) : Array Value).size
            simp only [Array.size_append, List.size_toArray, size_zeroCells, one_size, List.length_append, List.length_cons, List.length_nil]
            omega
          · simp only [Value.ownBlock, Option.some.injEq] at hg2
            omega
end Go.Proofs.Ytmklapbecdhnmaa
namespace Go.Proofs.Ytmklapbecdhnmaa
structure Sub where
  k : Nat
  ls : List ByteArray
  fp : List Nat
def kidsOf (subs : List Sub) : List Nat := subs.map (·.k)
def linesOf (subs : List Sub) : List ByteArray := subs.flatMap (·.ls)
def printOf (subs : List Sub) : List Nat := subs.flatMap (·.fp)
theorem kidsOf_app (a b : List Sub) : kidsOf (a ++ b) = kidsOf a ++ kidsOf b := by simp [kidsOf]
theorem linesOf_app (a b : List Sub) : linesOf (a ++ b) = linesOf a ++ linesOf b := by simp [linesOf]
theorem printOf_app (a b : List Sub) : printOf (a ++ b) = printOf a ++ printOf b := by simp [printOf]
theorem kidsOf_cons (a : Sub) (b : List Sub) : kidsOf (a :: b) = a.k :: kidsOf b := by simp [kidsOf]
theorem linesOf_cons (a : Sub) (b : List Sub) : linesOf (a :: b) = a.ls ++ linesOf b := by simp [linesOf]
theorem printOf_cons (a : Sub) (b : List Sub) : printOf (a :: b) = a.fp ++ printOf b := by simp [printOf]
theorem kidsOf_len (a : List Sub) : (kidsOf a).length = a.length := by simp [kidsOf]
/-- A node has these lines, and lies in these places. -/
def Rep (t : TD) : Nat → Nat → List ByteArray → List Nat → Prop
  | 0, k, ls, fp => t.nodes[k]? = some ⟨ls, [], ls.length⟩ ∧ fp = [k]
  | h + 1, k, ls, fp => ∃ subs : List Sub, t.nodes[k]? = some ⟨[], kidsOf subs, ls.length⟩ ∧ ls = linesOf subs ∧ fp = k :: printOf subs ∧ subs ≠ [] ∧ ∀ s ∈ subs, Rep t h s.k s.ls s.fp ∧ 4 ≤ (t.get s.k).size ∧ (t.get s.k).size ≤ 8
def Subs (t : TD) (h : Nat) (subs : List Sub) : Prop := ∀ s ∈ subs, Rep t h s.k s.ls s.fp ∧ 4 ≤ (t.get s.k).size ∧ (t.get s.k).size ≤ 8
theorem get_of {t : TD} {k : Nat} {x : ND} (h : t.nodes[k]? = some x) : t.get k = x := by
  unfold TD.get
  rw [List.getD_eq_getElem?_getD, h]
  rfl
theorem lt_of_node {t : TD} {k : Nat} {x : ND} (h : t.nodes[k]? = some x) : k < t.nodes.length := (List.getElem?_eq_some_iff.1 h).1
theorem get_same {t t' : TD} {k : Nat} (h : t'.nodes[k]? = t.nodes[k]?) : t'.get k = t.get k := by
  unfold TD.get
  rw [List.getD_eq_getElem?_getD, List.getD_eq_getElem?_getD, h]
/-- How much there is. -/
def TD.load (t : TD) : Nat := t.nodes.length + t.free.length
/-- A node that calls may work on. -/
structure TD.fine (t : TD) (k : Nat) : Prop where
  lt : k < t.nodes.length
  lines : (t.get k).lines.length ≤ 100
  kids : (t.get k).kids.length ≤ 100
  each : ∀ j ∈ (t.get k).kids, j < t.nodes.length ∧ j ≠ k
  counts : (t.get k).lines.length + t.counts (t.get k).kids ≤ 1000000
  fre : ∀ j ∈ t.free, j < t.nodes.length
  load : t.load ≤ 10000000
  mix : (t.get k).kids ≠ [] → (t.get k).lines = []
theorem load_put (t : TD) (k : Nat) (x : ND) : (t.put k x).load = t.load := by simp [TD.load, TD.put]
theorem load_sum (t : TD) (k : Nat) : (t.sum k).load = t.load := load_put t k _
theorem load_make (t : TD) (x : ND) : (t.make x).2.load ≤ t.load + 1 := by
  unfold TD.make TD.load
  split
  · simp
    omega
  · simp
    omega
theorem load_drop (t : TD) (k : Nat) : (t.drop k).load = t.load + 1 := by
  simp [TD.load, TD.drop]
  omega
theorem load_cut (t : TD) (k : Nat) : (t.cut k).2.load ≤ t.load + 1 := by
  unfold TD.cut
  have := load_make (t.put k (t.get k).low) (t.get k).high
  rw [load_put] at this
  exact this
theorem load_split (t : TD) (k : Nat) : (t.split k).2.load ≤ t.load + 1 := by
  unfold TD.split
  split
  · exact Nat.le_succ _
  · show (((t.cut k).2.sum k).sum (t.cut k).1).load ≤ _
    rw [load_sum, load_sum]
    exact load_cut t k
theorem load_hang (t : TD) (k n : Nat) (o : Option Nat) : (t.hang k n o).load = t.load := by
  cases o with
  | none => rfl
  | some j => exact load_put t k _
theorem load_ins (line : ByteArray) : ∀ (f : Nat) (t : TD) (k i : Nat) (o : Option Nat) (s : TD), TD.ins line f t k i = some (o, s) → s.load ≤ t.load + f
  | 0, t, k, i, o, s, h => by cases h
  | f + 1, t, k, i, o, s, h => by
    unfold TD.ins at h
    split at h
    · simp only [Option.some.injEq] at h
      have := load_split ((t.put k { t.get k with lines := insL (t.get k).lines i line }).sum k) k
      rw [h, load_sum, load_put] at this
      simp only [] at this
      omega
    · split at h
      · cases h
      · rename_i o2 s2 hr
        have ih := load_ins line f _ _ _ _ _ hr
        simp only [Option.some.injEq] at h
        have := load_split ((s2.hang k (t.find (t.get k).kids 0 i).1 o2).sum k) k
        rw [h, load_sum, load_hang] at this
        simp only [] at this
        omega
theorem Rep.head {t : TD} {h k : Nat} {ls : List ByteArray} {fp : List Nat} (r : Rep t h k ls fp) : k ∈ fp ∧ k < t.nodes.length ∧ (t.get k).count = ls.length := by
  cases h with
  | zero => obtain ⟨h1, rfl⟩ := r; exact ⟨by simp, lt_of_node h1, by rw [get_of h1]⟩
  | succ h => obtain ⟨subs, h1, _, rfl, _⟩ := r; exact ⟨by simp, lt_of_node h1, by rw [get_of h1]⟩
theorem Rep.congr {t t' : TD} : ∀ {h k : Nat} {ls : List ByteArray} {fp : List Nat}, Rep t h k ls fp → (∀ j ∈ fp, t'.nodes[j]? = t.nodes[j]?) → Rep t' h k ls fp
  | 0, k, ls, fp, ⟨h1, h2⟩, hs => ⟨by rw [hs k (by simp [h2])]; exact h1, h2⟩
  | h + 1, k, ls, fp, ⟨subs, h1, h2, h3, h4, h5⟩, hs => by
    subst h3
    refine ⟨subs, by rw [hs k (by simp)]; exact h1, h2, rfl, h4, fun s hm => ?_⟩
    have hin : ∀ j ∈ s.fp, t'.nodes[j]? = t.nodes[j]? := fun j hj => hs j (List.mem_cons_of_mem _ (List.mem_flatMap.2 ⟨s, hm, hj⟩))
    obtain ⟨g1, g2, g3⟩ := h5 s hm
    rw [get_same (hin s.k g1.head.1)]
    exact ⟨g1.congr hin, g2, g3⟩
theorem Subs.congr {t t' : TD} {h : Nat} {subs : List Sub} (r : Subs t h subs) (hs : ∀ j ∈ printOf subs, t'.nodes[j]? = t.nodes[j]?) : Subs t' h subs := fun s hm => by
  have hin : ∀ j ∈ s.fp, t'.nodes[j]? = t.nodes[j]? := fun j hj => hs j (List.mem_flatMap.2 ⟨s, hm, hj⟩)
  obtain ⟨g1, g2, g3⟩ := r s hm
  rw [get_same (hin s.k g1.head.1)]
  exact ⟨g1.congr hin, g2, g3⟩
theorem Subs.counts {t : TD} {h : Nat} : ∀ {subs : List Sub}, Subs t h subs → t.counts (kidsOf subs) = (linesOf subs).length
  | [], _ => rfl
  | s :: subs, r => by
    have ih := Subs.counts (subs := subs) (fun x hx => r x (List.mem_cons_of_mem _ hx))
    rw [kidsOf_cons, linesOf_cons, List.length_append, ← ih, ← (r s (List.mem_cons_self)).1.head.2.2]
    rfl
theorem put_nodes (t : TD) (k j : Nat) (x : ND) : (t.put k x).nodes[j]? = if k = j then (if j < t.nodes.length then some x else none) else t.nodes[j]? := by
  show (t.nodes.set k x)[j]? = _
  rw [List.getElem?_set]
  by_cases h : k = j
  · rw [if_pos h, if_pos h, h]
  · rw [if_neg h, if_neg h]
theorem put_self {t : TD} {k : Nat} (x : ND) (h : k < t.nodes.length) : (t.put k x).nodes[k]? = some x := by rw [put_nodes, if_pos rfl, if_pos h]
theorem put_other (t : TD) {k j : Nat} (x : ND) (h : k ≠ j) : (t.put k x).nodes[j]? = t.nodes[j]? := by rw [put_nodes, if_neg h]
theorem put_len (t : TD) (k : Nat) (x : ND) : (t.put k x).nodes.length = t.nodes.length := by simp [TD.put]
/-- What a step may have turned. -/
structure Step (t : TD) (fp : List Nat) (t' : TD) (fp' : List Nat) : Prop where
  nod : (fp' ++ t'.free).Nodup
  lt : ∀ j ∈ fp' ++ t'.free, j < t'.nodes.length
  src : ∀ j ∈ fp' ++ t'.free, j ∈ fp ++ t.free ∨ t.nodes.length ≤ j
  same : ∀ j, j < t.nodes.length → j ∉ fp → j ∉ t.free → t'.nodes[j]? = t.nodes[j]?
  len : t.nodes.length ≤ t'.nodes.length
  root : t'.root = t.root
  bytes : t'.bytes = t.bytes
structure Good (t : TD) (fp : List Nat) : Prop where
  nod : (fp ++ t.free).Nodup
  lt : ∀ j ∈ fp ++ t.free, j < t.nodes.length
theorem Step.good {t t' : TD} {fp fp' : List Nat} (h : Step t fp t' fp') : Good t' fp' := ⟨h.nod, h.lt⟩
theorem Step.refl {t : TD} {fp : List Nat} (h : Good t fp) : Step t fp t fp := ⟨h.nod, h.lt, fun _ hj => .inl hj, fun _ _ _ _ => rfl, Nat.le_refl _, rfl, rfl⟩
theorem Step.trans {t t' t'' : TD} {fp fp' fp'' : List Nat} (h : Step t fp t' fp') (g : Step t' fp' t'' fp'') : Step t fp t'' fp'' := by
  refine ⟨g.nod, g.lt, fun j hj => ?_, fun j h1 h2 h3 => ?_, Nat.le_trans h.len g.len, g.root.trans h.root, g.bytes.trans h.bytes⟩
  · rcases g.src j hj with a | a
    · exact h.src j a
    · right; have := h.len; omega
  · have h4 : j ∉ fp' ++ t'.free := fun hm => by
      rcases h.src j hm with a | a
      · rcases List.mem_append.1 a with b | b
        · exact h2 b
        · exact h3 b
      · omega
    rw [List.mem_append] at h4
    rw [g.same j (Nat.lt_of_lt_of_le h1 h.len) (fun a => h4 (.inl a)) (fun a => h4 (.inr a))]
    exact h.same j h1 h2 h3
theorem Good.perm {t : TD} {fp fp' : List Nat} (h : Good t fp) (p : fp.Perm fp') : Good t fp' :=
  ⟨((p.append_right _).nodup_iff).1 h.nod, fun j hj => h.lt j (((p.append_right _).mem_iff).2 hj)⟩
theorem Step.perm {t t' : TD} {a b c d : List Nat} (h : Step t a t' b) (p : a.Perm c) (q : b.Perm d) : Step t c t' d :=
  ⟨((q.append_right _).nodup_iff).1 h.nod, fun j hj => h.lt j (((q.append_right _).mem_iff).2 hj), fun j hj => by
    rcases h.src j (((q.append_right _).mem_iff).2 hj) with g | g
    · exact .inl (((p.append_right _).mem_iff).1 g)
    · exact .inr g, fun j h1 h2 h3 => h.same j h1 (fun g => h2 (p.mem_iff.1 g)) h3, h.len, h.root, h.bytes⟩
/-- A step at a part leaves the rest. -/
theorem Step.frame {t t' : TD} {fp fp' : List Nat} (R : List Nat) (h : Step t fp t' fp') (g : Good t (R ++ fp)) : Step t (R ++ fp) t' (R ++ fp') := by
  have hR : ∀ j ∈ R, j < t.nodes.length ∧ j ∉ fp ++ t.free := fun j hj => ⟨g.lt j (by simp [hj]), fun hm => by
    have := g.nod
    rw [List.append_assoc] at this
    exact (List.nodup_append.1 this).2.2 j hj j hm rfl⟩
  refine ⟨?_, fun j hj => ?_, fun j hj => ?_, fun j h1 h2 h3 => h.same j h1 (fun a => h2 (by simp [a])) h3, h.len, h.root, h.bytes⟩
  · rw [List.append_assoc]
    refine List.nodup_append.2 ⟨?_, h.nod, fun a ha b hb e => ?_⟩
    · have := g.nod
      rw [List.append_assoc] at this
      exact (List.nodup_append.1 this).1
    · subst e
      obtain ⟨r1, r2⟩ := hR a ha
      rcases h.src a hb with q | q
      · exact r2 q
      · omega
  · rw [List.append_assoc, List.mem_append] at hj
    rcases hj with hj | hj
    · have := (hR j hj).1; have := h.len; omega
    · exact h.lt j hj
  · rw [List.append_assoc, List.mem_append] at hj
    rcases hj with hj | hj
    · left; simp [hj]
    · rcases h.src j hj with q | q
      · left; rw [List.append_assoc]; exact List.mem_append.2 (.inr q)
      · exact .inr q
theorem Good.sub {t : TD} {R fp : List Nat} (g : Good t (R ++ fp)) : Good t fp := by
  refine ⟨?_, fun j hj => g.lt j (by rw [List.append_assoc]; exact List.mem_append.2 (.inr hj))⟩
  have := g.nod
  rw [List.append_assoc] at this
  exact (List.nodup_append.1 this).2.1
theorem Step.put {t : TD} {fp : List Nat} (g : Good t fp) {k : Nat} (hk : k ∈ fp) (x : ND) : Step t fp (t.put k x) fp :=
  ⟨g.nod, fun j hj => by rw [put_len]; exact g.lt j hj, fun _ hj => .inl hj, fun j _ h2 _ => put_other t x (fun e => h2 (e ▸ hk)), by rw [put_len]; exact Nat.le_refl _, rfl, rfl⟩
theorem Step.make {t : TD} {fp : List Nat} (g : Good t fp) (x : ND) : Step t fp (t.make x).2 ((t.make x).1 :: fp) ∧ (t.make x).2.nodes[(t.make x).1]? = some x ∧ (t.make x).1 ∉ fp ∧ (∀ j, j ∈ fp → (t.make x).2.nodes[j]? = t.nodes[j]?) := by
  unfold TD.make
  cases hf : t.free.getLast? with
  | none =>
    have he : t.free = [] := List.getLast?_eq_none_iff.1 hf
    have hlt := g.lt
    have hnd := g.nod
    rw [he, List.append_nil] at hlt hnd
    simp only []
    refine ⟨⟨?_, fun j hj => ?_, fun j hj => ?_, fun j h1 h2 h3 => ?_, ?_, rfl, rfl⟩, ?_, ?_, fun j hj => ?_⟩
    · simp only [he, List.append_nil]
      exact List.nodup_cons.2 ⟨fun hm => by have := hlt _ hm; omega, hnd⟩
    · simp only [he, List.append_nil, List.mem_cons] at hj
      simp only [List.length_append, List.length_cons, List.length_nil]
      rcases hj with rfl | hj
      · omega
      · have := hlt j hj; omega
    · simp only [he, List.append_nil, List.mem_cons] at hj ⊢
      rcases hj with rfl | hj
      · exact .inr (Nat.le_refl _)
      · exact .inl hj
    · exact List.getElem?_append_left h1
    · simp
    · simp
    · intro hm; have := hlt _ hm; omega
    · exact List.getElem?_append_left (hlt j hj)
  | some k =>
    have he : t.free = t.free.dropLast ++ [k] := by
      obtain ⟨ys, hy⟩ := List.getLast?_eq_some_iff.1 hf
      rw [hy]
      simp
    have hk : k ∈ t.free := by rw [he]; simp
    have hkl : k < t.nodes.length := g.lt k (by simp [hk])
    have hnd := g.nod
    rw [he] at hnd
    have hp : (fp ++ (t.free.dropLast ++ [k])).Perm ((k :: fp) ++ t.free.dropLast) := by
      refine (List.perm_append_comm_assoc _ _ _).trans ?_
      refine List.perm_append_comm.trans ?_
      rw [List.append_assoc, List.cons_append]
      exact (List.perm_middle (l₁ := fp)).symm.symm.trans (by simp)
    have hnd2 := hp.nodup_iff.1 hnd
    have hkf : k ∉ fp := fun hm => by
      rw [List.cons_append] at hnd2
      exact (List.nodup_cons.1 hnd2).1 (List.mem_append.2 (.inl hm))
    simp only []
    refine ⟨⟨hnd2, fun j hj => ?_, fun j hj => .inl ?_, fun j h1 h2 h3 => ?_, by simp, rfl, rfl⟩, by rw [List.getElem?_set_self hkl], hkf, fun j hj => List.getElem?_set_ne (fun e => hkf (by rw [show k = j from e]; exact hj))⟩
    · have := hp.mem_iff.2 hj
      rw [← he] at this
      rw [List.length_set]
      exact g.lt j this
    · have := hp.mem_iff.2 hj
      rwa [← he] at this
    · exact List.getElem?_set_ne (fun e => h3 (by rw [← show k = j from e]; exact hk))
end Go.Proofs.Ytmklapbecdhnmaa
