/- Lemmas that the law's proof stands on, part 7: PatJ, Walk. No condition. -/
import Derived.Test.YtigbfgmgdfnhcaaBaseA0
import Derived.Great.Walk
import Derived.Test.YtigbfgmgdfnhcaaBaseA3
import Derived.Test.YtigbfgmgdfnhcaaBaseA6
set_option linter.all false
set_option linter.unusedVariables false
set_option linter.unusedSimpArgs false
namespace Go.Proofs.Ytigbfgmgdfnhcaa
open Go.RowKit
theorem cell_any {w : World} {p : Addr} {v : Value} (h : w.cell? p = some v) (o : Obj) : (w.alloc o).cell? p = some v :=
  ((Upd.refl (fun _ => False) w).alloc o).cell h (fun h => h)
theorem free_any {w : World} {b : Nat} {cs : Array Value} {T : TypeId} (h : w.heap[b]? = some (.cells cs T (0, 0))) (i : Nat) (o : Obj) : (w.alloc o).frozen? ⟨b, i, none⟩ = false :=
  free_of (heap_old2 h o) i
theorem ite_ind {α : Type} (P : α → Prop) {p : Prop} [Decidable p] {a b : α} (ha : P a) (hb : P b) : P (if p then a else b) := by
  by_cases h : p
  · rw [if_pos h]; exact ha
  · rw [if_neg h]; exact hb
def nextIn (i : Nat) (q : TokD × Bool) : Prop := i + 1 ≤ q.1.next ∧ q.1.next ≤ i + 3
theorem nextIn_of {i : Nat} {t : TokD} {b : Bool} (h : t.next = i + 1 ∨ t.next = i + 2 ∨ t.next = i + 3) : nextIn i (t, b) := by unfold nextIn; simp only []; omega
theorem slash_next (l : List UInt8) (mode cs : Int) (i : Nat) : nextIn i (slashF l mode cs i) := by
  unfold slashF
  repeat' (first | exact nextIn_of (.inr (.inl rfl)) | exact nextIn_of (.inr (.inr rfl)) | refine ite_ind (nextIn i) ?_ ?_)
theorem token_next (l : List UInt8) (mode cs : Int) (i : Nat) : i + 1 ≤ (tokenF l mode cs i).1.next ∧ (tokenF l mode cs i).1.next ≤ i + 3 := by
  have : nextIn i (tokenF l mode cs i) := by
    unfold tokenF
    refine ite_ind (nextIn i) (slash_next l mode cs i) ?_
    repeat' (first | exact nextIn_of (.inl rfl) | refine ite_ind (nextIn i) ?_ ?_)
  exact this
theorem spl_rd (s : ByteArray) (st : RdD) (nv : Value) : spl #[.string ⟨#[]⟩, .int .i64 0, .int .u8 0, .slice none 0 0, .int .i64 0, .int .i64 0, .int .u8 0, .bool false, .bool false, .bool false, .bool false, .bool false, .bool false, .bool false, .bool false, .bool false, .bool false, .int .i64 0, .int .i64 0, .int .i64 0, .string ⟨#[]⟩] 0 (rdC s st nv).toList = rdC s st nv := by
  simp only [rdC, spl, zzT, zzO, zzS, Array.toList]
theorem slice_form {w : World} {B n size : Nat} {e : TypeId} {v : Value} {xs : List Value} (h : w.ownsRow B e size v n xs) : ∃ a m c, v = .slice a m c := by
  rcases h.2 with ⟨rfl, _⟩ | ⟨g, cap, cur, rfl, _⟩ <;> exact ⟨_, _, _, rfl⟩
def posOf (w : World) (rb : Nat) : Nat := match w.cell? ⟨rb, 1, none⟩ with
  | some (.int _ n) => n.toNat
  | _ => 0
/-- A reader with another place and mode. -/
def RdD.at2 (st : RdD) (mode : Int) (j : Nat) : RdD := { st with pos := j, mode := mode }
theorem posOf_of {w : World} {rb n : Nat} (h : w.cell? ⟨rb, 1, none⟩ = some (.int .i64 (n : Nat))) : posOf w rb = n := by
  unfold posOf
  rw [h]
  simp
theorem rdC_pm (s : ByteArray) (st : RdD) (nv : Value) (m m2 : Int) (j j2 : Nat) : ((rdC s (st.at2 m j) nv).setIfInBounds 1 (.int .i64 (j2 : Nat))).setIfInBounds 2 (.int .u8 m2) = rdC s (st.at2 m2 j2) nv := by
  simp only [rdC, RdD.at2, zzT, zzO, zzS]
theorem rdC_mp (s : ByteArray) (st : RdD) (nv : Value) (m m2 : Int) (j j2 : Nat) : ((rdC s (st.at2 m j) nv).setIfInBounds 2 (.int .u8 m2)).setIfInBounds 1 (.int .i64 (j2 : Nat)) = rdC s (st.at2 m2 j2) nv := by
  simp only [rdC, RdD.at2, zzT, zzO, zzS]
theorem ends_fin {w w1 wx : World} {B rb : Nat} {s : ByteArray} {st : RdD} {nv : Value} {kvs : List Value} {Z : Nat → Prop} {m : Int} {j : Nat} (h : RdAt w1 B rb s st nv kvs Z) (hU01 : Upd (fun _ => False) w w1) (hU : Upd (fun k => k = rb) w1 wx)
    (k0 : wx.heap[rb]? = some (.cells (rdC s (st.at2 m j) nv) 96 (0, 0))) :
    RdAt ((wx.setCell ⟨rb, 1, none⟩ (.int .i64 (st.pos : Nat))).setCell ⟨rb, 2, none⟩ (.int .u8 st.mode)) B rb s st nv kvs Z ∧ Upd (fun k => k = rb) w ((wx.setCell ⟨rb, 1, none⟩ (.int .i64 (st.pos : Nat))).setCell ⟨rb, 2, none⟩ (.int .u8 st.mode)) := by
  have hU2 := (hU.setCell (p := ⟨rb, 1, none⟩) (fun _ => rfl) (.int .i64 (st.pos : Nat))).setCell (p := ⟨rb, 2, none⟩) (fun _ => rfl) (.int .u8 st.mode)
  have k2 := heap_set (heap_set k0 1 (.int .i64 (st.pos : Nat))) 2 (.int .u8 st.mode)
  rw [rdC_pm] at k2
  exact ⟨h.set hU2 k2 rfl h.done, (hU01.mono (fun _ _ h => h.elim)).then hU2 (fun _ _ h => h)⟩
def EndsPost (w : World) (B rb : Nat) (s : ByteArray) (st : RdD) (nv : Value) (kvs : List Value) (Z : Nat → Prop) (i : Nat) (e : Ending) (w' : World) : Prop :=
  e = .returned (.bool (endsL s.data.toList st.case (s.size + 1) st.mode i)) ∧ RdAt w' B rb s st nv kvs Z ∧ Upd (fun k => k = rb) w w'
set_option maxRecDepth 100000 in
set_option maxHeartbeats 4000000 in
theorem ends_any {w : World} {B rb : Nat} {s : ByteArray} {st : RdD} {nv : Value} {kvs : List Value} {Z : Nat → Prop} (h : RdAt w B rb s st nv kvs Z) (hs : s.size ≤ 1000) (i : Nat) (hi : i ≤ 1003) :
    Calls Try.prog 87 #[.pointer (some ⟨rb, 0, none⟩), .int .i64 i] w (EndsPost w B rb s st nv kvs Z i) := by
  have HR := Lib.hid h
  have hrb := heap_lt h.blk
  obtain ⟨na, nn, nc, rfl⟩ := slice_form h.own
  have k0 := h.blk
  clear h
  unfold EndsPost
  obtain ⟨T, hT⟩ : ∃ T, endsL s.data.toList st.case (s.size + 1) st.mode i = T := ⟨_, rfl⟩
  have HTT := Lib.hid hT
  rw [hT]
  clear hT
  go_enter Try.func87, Try.ntmps87
  go_wp2_with (first
    | ((with_reducible refine stopLd 96 _ rfl ?_); unfold Stop; refine wpList_load_row rfl 96 _ rfl _ rfl 96 _ (0, 0) _ k0 Try.underlying96 rfl (by kernel_rfl) ?_)
    | ((with_reducible refine stopSt 96 _ _ rfl ?_); unfold Stop; refine wpList_store_blk rfl 96 _ _ rfl w.heap.size 0 rfl (.agg (rdC s st (.slice na nn nc))) rfl #[.string ⟨#[]⟩, .int .i64 0, .int .u8 0, .slice none 0 0, .int .i64 0, .int .i64 0, .int .u8 0, .bool false, .bool false, .bool false, .bool false, .bool false, .bool false, .bool false, .bool false, .bool false, .bool false, .int .i64 0, .int .i64 0, .int .i64 0, .string ⟨#[]⟩] (rdC s st (.slice na nn nc)) _ (heap_alloc_new w _) (zzB rfl) (by kernel_rfl) rfl (spl_rd _ _ _) ?_; intro w1 k1 hU1 hs1; replace k0 := hU1.heap (heap_old2 k0 _) (by omega); have hU01 : Upd (fun _ => False) w w1 := ((Upd.refl (fun _ => False) w).alloc _).then hU1 (fun j hj e => by omega); have c1 := cell_of k0 1 (v := .int .i64 st.pos) rfl; have f1 := free_of k0 1))
  have c0 := cell_of k0 0 (v := .string s) rfl
  have hz1 : w1.heap.size = w.heap.size + 1 := by simpa using hs1
  have HR1 := Lib.hid (HR.out.upd hU01 (fun h => h) (fun _ _ h => h) (fun _ _ h => h))
  have k2 := heap_set k0 1 (.int .i64 (i : Nat))
  have hU2 := (Upd.refl (fun k => k = rb) w1).setCell (p := ⟨rb, 1, none⟩) (fun _ => rfl) (.int .i64 (i : Nat))
  have k12 := hU2.heap k1 (by omega)
  have hz2 : (w1.setCell ⟨rb, 1, none⟩ (.int .i64 (i : Nat))).heap.size = w.heap.size + 1 := by simpa using hz1
  clear k0 c1 f1 c0 hU1 hs1
  obtain ⟨w2, hw2⟩ : ∃ w2, w1.setCell ⟨rb, 1, none⟩ (.int .i64 (i : Nat)) = w2 := ⟨_, rfl⟩
  rw [hw2] at k2 hU2 k12 hz2 ⊢
  clear hw2
  go_loopw [6] (fun v wr => ∃ (f j : Nat) (mode : Int), v = .bool false ∧ Hid (endsL s.data.toList st.case f mode j = T) ∧ s.size + 1 ≤ f + j ∧ j ≤ 1003 ∧ wr.heap[rb]? = some (.cells (rdC s (st.at2 mode j) (.slice na nn nc)) 96 (0, 0)) ∧ Upd (fun k => k = rb) w1 wr ∧ wr.heap[w.heap.size]? = some (.cells (rdC s st (.slice na nn nc)) 96 (0, 0)) ∧ w.heap.size + 1 ≤ wr.heap.size) (fun v wr => 1010 - posOf wr rb)
  case atStart =>
    have e : rdC s (st.at2 st.mode i) (.slice na nn nc) = (rdC s st (.slice na nn nc)).setIfInBounds 1 (.int .i64 (i : Nat)) := by
      simp only [rdC, RdD.at2, zzT, zzO, zzS]
    exact ⟨s.size + 1, i, st.mode, rfl, HTT, by omega, hi, by rw [e]; exact k2, hU2, k12, by omega⟩
  case round =>
    clear k1 k2 hU2 k12 hz2
    obtain ⟨f, j, mode, rfl, HE, hf, hj, k0, hU, k1, hz⟩ := hrel
    have c0 := cell_of k0 0 (v := .string s) rfl
    have c1 := cell_of k0 1 (v := .int .i64 j) rfl
    have c2 := cell_of k0 2 (v := .int .u8 mode) rfl
    have c6 := cell_of k0 6 (v := .int .u8 st.case) rfl
    have HC1 := Lib.hid c1
    by_cases hlt : j < s.size
    · have hlt2 : ¬ (s.size : Int) ≤ (j : Int) := by omega
      have hstep : ∃ f', f = f' + 1 := ⟨f - 1, by omega⟩
      obtain ⟨f, rfl⟩ := hstep
      have HE2 : Hid (endsL s.data.toList st.case (f + 1) mode j = _) := HE
      unfold endsL at HE2
      rw [if_neg (by simp; omega)] at HE2
      clear HE
      have hnx := token_next s.data.toList mode st.case j
      have htk := fun w h0 h2 h6 => token_any s rb mode st.case j w hs hlt h0 h2 h6
      generalize tokenF s.data.toList mode st.case j = q at *
      obtain ⟨t, ok⟩ := q
      simp only [tokC] at htk hnx
      have HT := Lib.hid htk
      clear htk
      go_wp2
      first | (refine wq_region_from_still ?_) | (refine wq_region_from (by kernel_rfl) (by kernel_rfl) ?_)
      repeat
        first
          | ((refine WQ_skip (by rfl) ?_); (try simp only [Act.put, zzT, zzO, zzS]))
          | (apply WQ_val (by rfl); (focus (intro w' hC; have s1 := hC.cell c1; have s0 := hC.cell c0; go_simp; (first | done | exact rfl | (rw [if_pos (by omega)]; done) | (exact str_idx (by omega))))); (try simp only [Act.put, zzT, zzO, zzS]))
          | (apply WQ_call (by rfl); (focus (intro w' hC; go_simp; (first | done | exact rfl | exact ⟨rfl, rfl⟩))); (focus (intro w' hC; first | fail)); (try simp only [Act.put, zzT, zzO, zzS]))
      refine WQ_nil ?_
      intro wq hq
      have hqU := false_upd2 hq
      replace k0 := hqU.heap k0 (fun h => h)
      replace k1 := hqU.heap k1 (fun h => h)
      replace c0 := hqU.cell c0 (fun h => h)
      replace c2 := hqU.cell c2 (fun h => h)
      replace c6 := hqU.cell c6 (fun h => h)
      replace c1 := hqU.cell c1 (fun h => h)
      replace hz : w.heap.size + 1 ≤ wq.heap.size := Nat.le_trans hz hq.size
      replace hU := hU.then hqU (fun _ _ h => h.elim)
      clear hqU
      go_wp2_with (first
        | (go_at_call 62
           refine (HT.out _ c0 c2 c6).mono ?_
           rintro e w5 ⟨rfl, hb5⟩
           have hqU := false_upd2 hb5
           replace k0 := hqU.heap k0 (fun h => h)
           replace k1 := hqU.heap k1 (fun h => h)
           replace hU := hU.then hqU (fun _ _ h => h.elim)
           replace hz : w.heap.size + 1 ≤ w5.heap.size := Nat.le_trans hz hb5.size
           have d1 := cell_any (cell_of k1 1 (v := .int .i64 st.pos) rfl)
           have d2 := cell_any (cell_of k1 2 (v := .int .u8 st.mode) rfl)
           have d3 := cell_any (cell_of k0 1 (v := .int .i64 j) rfl)
           have d4 := cell_any (cell_of k0 2 (v := .int .u8 mode) rfl)
           have f1 := free_any k0 1
           have f2 := free_any k0 2
           clear hqU hb5 c0 c1 c2 c6))
      case roundEnd =>
        go_roundw
        case rel =>
          have k2 := heap_set (heap_set (heap_old2 k0 (.cells #[Value.int IntKind.u8 t.sign, Value.int IntKind.u8 t.node.op, Value.int IntKind.u8 t.node.c, Value.int IntKind.u64 t.node.set.a0, Value.int IntKind.u64 t.node.set.a1, Value.int IntKind.u64 t.node.set.a2, Value.int IntKind.u64 t.node.set.a3, Value.int IntKind.i64 t.node.min, Value.int IntKind.i64 t.node.max, Value.bool t.node.lzy, Value.int IntKind.i64 t.node.n, Value.slice none 0 0, Value.bool t.non, Value.int IntKind.i64 t.next, Value.int IntKind.u8 t.mode, Value.int IntKind.u8 t.case] 115)) 2 (.int .u8 t.mode)) 1 (.int .i64 (t.next : Nat))
          rw [rdC_mp] at k2
          refine ⟨f, t.next, t.mode, rfl, Lib.hid ?_, by omega, by omega, k2, (((hU.alloc _).setCell (p := ⟨rb, 2, none⟩) (fun _ => rfl) _).setCell (p := ⟨rb, 1, none⟩) (fun _ => rfl) _), ?_, ?_⟩
          · rw [← HE2.out]; simp_all
          · rw [heap_set_ne _ _ (by omega), heap_set_ne _ _ (by omega)]; exact heap_old2 k1 _
          · simp; omega
        case measure =>
          rw [posOf_of HC1.out, posOf_of (n := t.next) (cell_of (heap_set (heap_set (heap_old2 k0 _) 2 _) 1 _) 1 rfl)]
          omega
      all_goals
        go_ret
        obtain ⟨q1, q2⟩ := ends_fin HR1.out hU01 (hU.alloc _) (heap_old2 k0 _)
        exact ⟨ret_bool (by rw [← HE2.out]; simp_all), q1, q2⟩
    · have hge : (s.size : Int) ≤ (j : Int) := by omega
      go_wp2
      first | (refine wq_region_from_still ?_) | (refine wq_region_from (by kernel_rfl) (by kernel_rfl) ?_)
      repeat
        first
          | ((refine WQ_skip (by rfl) ?_); (try simp only [Act.put, zzT, zzO, zzS]))
          | (apply WQ_val (by rfl); (focus (intro w' hC; have s1 := hC.cell c1; have s0 := hC.cell c0; go_simp; (first | done | exact rfl | (rw [if_pos (by omega)]; done) | (exact str_idx (by omega))))); (try simp only [Act.put, zzT, zzO, zzS]))
          | (apply WQ_call (by rfl); (focus (intro w' hC; go_simp; (first | done | exact rfl | exact ⟨rfl, rfl⟩))); (focus (intro w' hC; first | fail)); (try simp only [Act.put, zzT, zzO, zzS]))
      refine WQ_nil ?_
      intro wq hq
      have hqU := false_upd2 hq
      replace k0 := hqU.heap k0 (fun h => h)
      replace k1 := hqU.heap k1 (fun h => h)
      replace c0 := hqU.cell c0 (fun h => h)
      replace c2 := hqU.cell c2 (fun h => h)
      replace c6 := hqU.cell c6 (fun h => h)
      replace c1 := hqU.cell c1 (fun h => h)
      replace hz : w.heap.size + 1 ≤ wq.heap.size := Nat.le_trans hz hq.size
      replace hU := hU.then hqU (fun _ _ h => h.elim)
      have d1 := cell_of k1 1 (v := .int .i64 st.pos) rfl
      have d2 := cell_of k1 2 (v := .int .u8 st.mode) rfl
      have f1 := free_of k0 1
      have f2 := free_of k0 2
      have HE2 : Hid (endsL s.data.toList st.case f mode j = _) := HE
      have hstep : ∃ f', f = f' := ⟨f, rfl⟩
      go_wp2
      go_ret
      obtain ⟨q1, q2⟩ := ends_fin HR1.out hU01 hU k0
      refine ⟨ret_bool ?_, q1, q2⟩
      rw [← HE2.out]
      cases f with
      | zero => rfl
      | succ f => unfold endsL; rw [if_pos (by simp; omega)]
end Go.Proofs.Ytigbfgmgdfnhcaa
namespace Go.Proofs.Ytigbfgmgdfnhcaa
open Go.RowKit
theorem cells_of {w : World} {b : Nat} {cs : Array Value} {T : TypeId} {fr : Nat × Nat} (h : w.heap[b]? = some (.cells cs T fr)) : ∀ i, w.cell? ⟨b, i, none⟩ = cs[i]? := fun i => by simp [World.cell?, h]
theorem frees_of {w : World} {b : Nat} {cs : Array Value} {T : TypeId} (h : w.heap[b]? = some (.cells cs T (0, 0))) : ∀ i, w.frozen? ⟨b, i, none⟩ = false := fun i => free_of h i
section
variable {P : Program} {ops : Array Oper} {rest : List Oper} {op : Oper} {a : Act} {w : World} {Q : Exit → Act → World → Prop}
theorem stopAl (ty : TypeId) (ho : op.op = .alloc ty) (h : Stop (wpList P ops Q (op :: rest) a w)) : wpList P ops Q (op :: rest) a w := h
theorem stopBx (ty : TypeId) (x : Operand) (ho : op.op = .box ty x) (h : Stop (wpList P ops Q (op :: rest) a w)) : wpList P ops Q (op :: rest) a w := h
theorem new_facts (w : World) (o : Obj) : (w.alloc o).heap[w.heap.size]? = some o ∧ Upd (fun _ => False) w (w.alloc o) ∧ (w.alloc o).heap.size = w.heap.size + 1 :=
  ⟨heap_alloc_new w o, (Upd.refl _ w).alloc o, by simp⟩
theorem wpList_alloc_blk (hgd : op.guard = none) (ty : TypeId) (ho : op.op = .alloc ty) (z : Value) (hz : (P.info? ty).map (·.zero) = some (some z)) (Z : Array Value) (hZ : z.cells = Z)
    (h : ∀ b w', w.heap.size = b → w'.heap[b]? = some (.cells Z ty (0, 0)) → Upd (fun _ => False) w w' → w'.heap.size = b + 1 → wpList P ops Q rest (a.put op.dst (.pointer (some ⟨b, 0, none⟩))) w') : wpList P ops Q (op :: rest) a w := by
  subst hZ
  refine wpList_plain hgd fun K hK => ?_
  have hz2 : (zeroValue ty).run P w = .ok z w := by
    cases hi : P.info? ty with
    | none => simp [hi] at hz
    | some i =>
      simp only [hi, Option.map_some, Option.some.injEq] at hz
      simp [zeroValue, typeInfo, hi, hz, Sem.run_bind, Result.andThen]
  unfold Oper.wp execOp
  simp only [ho, Instr.alloc, Sem.run_bind, hz2, Result.andThen_ok, newVar, newRow, run_newObj_alloc, Sem.run_pure]
  obtain ⟨g1, g2, g3⟩ := new_facts w (.cells z.cells ty)
  exact hK _ _ (h _ _ rfl g1 g2 g3)
theorem wpList_box_blk (hgd : op.guard = none) (ty : TypeId) (x : Operand) (ho : op.op = .box ty x) (v : Value) (hx : a.eval x = v) (Z : Array Value) (hZ : v.cells = Z)
    (h : ∀ b w', w.heap.size = b → w'.heap[b]? = some (.cells Z ty (0, 0)) → Upd (fun _ => False) w w' → w'.heap.size = b + 1 → wpList P ops Q rest (a.put op.dst (.pointer (some ⟨b, 0, none⟩))) w') : wpList P ops Q (op :: rest) a w := by
  subst hZ hx
  refine wpList_plain hgd fun K hK => ?_
  unfold Oper.wp execOp
  simp only [ho, Sem.run_bind, Instr.box, newVar, newRow, run_newObj_alloc, Sem.run_pure, Result.andThen_ok]
  obtain ⟨g1, g2, g3⟩ := new_facts w (.cells (a.eval x).cells ty)
  exact hK _ _ (h _ _ rfl g1 g2 g3)
theorem wpList_sliceLit_blk (hgd : op.guard = none) (t e : TypeId) (len : Nat) (parts : Array (Nat × Operand)) (ho : op.op = .buildSlice t len parts) (hu : P.underlying t = some (.slice e)) (Z : Array Value)
    (hf : P.builtSlice e len (parts.map fun (i, x) => (i, a.eval x)).toList = some Z)
    (h : ∀ b w', w.heap.size = b → w'.heap[b]? = some (.cells Z e (0, 0)) → Upd (fun _ => False) w w' → w'.heap.size = b + 1 → wpList P ops Q rest (a.put op.dst (.slice (some ⟨b, 0, none⟩) len len)) w') : wpList P ops Q (op :: rest) a w := by
  refine Great.wpList_buildSliceTo hgd t e len parts ho w.heap.size rfl op.dst rfl hu Z hf ?_
  obtain ⟨g1, g2, g3⟩ := new_facts w (.cells Z e)
  exact h _ _ rfl g1 g2 g3
end
end Go.Proofs.Ytigbfgmgdfnhcaa
