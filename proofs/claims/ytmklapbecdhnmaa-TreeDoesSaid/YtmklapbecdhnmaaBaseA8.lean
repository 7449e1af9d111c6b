/- Lemmas that the law's proof stands on, part 8: Quiet, Twa, Twb, Twc. No condition. -/
import Derived.Test.YtmklapbecdhnmaaBaseA0
import Derived.BigQuiet
import Derived.Deep.CutBlock
import Derived.Deep.LoopGhost
import Derived.Lib.Hide
import Derived.Outline
import Derived.WalkKit
import Derived.Test.YtmklapbecdhnmaaBaseA7
set_option linter.all false
set_option linter.unusedVariables false
set_option linter.unusedSimpArgs false
namespace Go.Proofs.Ytmklapbecdhnmaa
open Go.RowKit
section
variable {P : Program} {ops : Array Oper} {C : World → Prop} {a : Act} {o : Oper} {K : Act → Prop}
theorem quiet_val (v : Value) (hr : ∀ w, C w → (execOp a.eval o).run P w = .ok (.value v) w) (hk : K (a.put o.dst v)) : o.quiet P a C K :=
  ⟨v, fun w hw => by unfold Oper.quietAt; rw [hr w hw]; exact ⟨rfl, rfl⟩, hk⟩
theorem quiet_call (v : Value) (f : FuncId) (args : Array Value) (hr : ∀ w, C w → (execOp a.eval o).run P w = .ok (.enter f args) w) (hc : ∀ w, C w → Calls P f args w fun e w'' => e = .returned v ∧ C w'') (hk : K (a.put o.dst v)) : o.quiet P a C K :=
  ⟨v, fun w hw => by unfold Oper.quietAt; rw [hr w hw]; exact ⟨rfl, hc w hw⟩, hk⟩
theorem wpQ_val {Q : Act → Prop} {rest : List Oper} {v : Value} (hw : Region.wanted o (yielded ops a.tmps) = true) (hr : ∀ w, C w → (execOp a.eval o).run P w = .ok (.value v) w) (hk : wpQuiet P ops C Q rest (a.put o.dst v)) : wpQuiet P ops C Q (o :: rest) a :=
  wpQuiet_step fun _ hK => by rw [if_pos hw]; exact quiet_val v hr (hK _ hk)
theorem wpQ_call {Q : Act → Prop} {rest : List Oper} {v : Value} {f : FuncId} {args : Array Value} (hw : Region.wanted o (yielded ops a.tmps) = true) (hr : ∀ w, C w → (execOp a.eval o).run P w = .ok (.enter f args) w)
    (hc : ∀ w, C w → Calls P f args w fun e w'' => e = .returned v ∧ C w'') (hk : wpQuiet P ops C Q rest (a.put o.dst v)) : wpQuiet P ops C Q (o :: rest) a :=
  wpQuiet_step fun _ hK => by rw [if_pos hw]; exact quiet_call v f args hr hc (hK _ hk)
theorem wpQ_skip {Q : Act → Prop} {rest : List Oper} (hw : Region.wanted o (yielded ops a.tmps) = false) (hk : wpQuiet P ops C Q rest (a.put o.dst undef)) : wpQuiet P ops C Q (o :: rest) a :=
  wpQuiet_step fun _ hK => by rw [if_neg (by rw [hw]; exact Bool.false_ne_true)]; exact hK _ hk
/-- The worlds that have grown from W. -/
def From (W w : World) : Prop := Below W.heap.size W w
theorem From.refl (W : World) : From W W := Below.refl _ _
theorem From.cell {W w : World} (h : From W w) {p : Addr} {v : Value} (hc : W.cell? p = some v) : w.cell? p = some v := by
  have hlt : p.block < W.heap.size := World.block_lt_of_cell? W p hc
  rw [Below.cell h hlt]; exact hc
theorem From.call {W w w' : World} (h : From W w) (hb : Below w.heap.size w w') : From W w' := Below.trans h (hb.mono (Below.size h))
theorem From.of_calls {W w : World} (h : From W w) {f : FuncId} {args : Array Value} {v : Value} (hc : Calls P f args w fun e w' => e = .returned v ∧ Below w.heap.size w w') :
    Calls P f args w fun e w'' => e = .returned v ∧ From W w'' := hc.mono fun _ _ ⟨he, hb⟩ => ⟨he, From.call h hb⟩
theorem wp_region_from {id : Nat} {Q : Exit → Act → World → Prop} {w : World} {l : List Oper} (hm : P.follows .mixedOrders = true) (hB : Region.lexB .any l.toArray = true)
    (h : wpQuiet P l.toArray (From w) (fun a' => ∀ w', From w w' → Q .normal a' w') l a) : (Code.region id l.toArray true).wp P Q a w :=
  wp_region_quiet (C := From w) hm hB ((Below.refl _ _).drew) (by simpa using h)
theorem wpOps_of_quiet {Q : Exit → Act → World → Prop} : ∀ (l : List Oper) (k : Nat) (a : Act) (w : World), (∀ j, l[j]? = ops[k + j]?) → C w →
    wpQuiet P ops C (fun a' => ∀ w', C w' → Q .normal a' w') l a → wpOps P ops Q (List.range' k l.length) a w
  | [], _, a, w, _, hC, h => h w hC
  | o :: l, k, a, w, hl, hC, h => by
    have h0 : ops[k]? = some o := by simpa using (hl 0).symm
    rw [List.length_cons, List.range'_succ, wpOps_cons]
    have hq : qOp P ops C k (wpQuiet P ops C (fun a' => ∀ w', C w' → Q .normal a' w') l) a := by unfold qOp; simp only [h0]; exact h
    exact wpOp_of_qOp hC (fun a' w' hw' hk => wpOps_of_quiet l (k + 1) a' w' (fun j => by have := hl (j + 1); simpa [Nat.add_assoc, Nat.add_comm 1 j] using this) hw' hk) hq
theorem wp_region_from_still {id : Nat} {Q : Exit → Act → World → Prop} {w : World} {l : List Oper}
    (h : wpQuiet P l.toArray (From w) (fun a' => ∀ w', From w w' → Q .normal a' w') l a) : (Code.region id l.toArray false).wp P Q a w := by
  refine wp_region ?_
  have := wpOps_of_quiet (C := From w) (ops := l.toArray) l 0 a w (fun j => by simp) (From.refl w) h
  simpa [List.range_eq_range'] using this
/-- The same, as a thing that doesn't unfold by itself. -/
structure WQ (P : Program) (ops : Array Oper) (C : World → Prop) (Q : Act → Prop) (l : List Oper) (a : Act) : Prop where
  h : wpQuiet P ops C Q l a
theorem WQ_val {Q : Act → Prop} {rest : List Oper} {v : Value} (hw : Region.wanted o (yielded ops a.tmps) = true) (hr : ∀ w, C w → (execOp a.eval o).run P w = .ok (.value v) w) (hk : WQ P ops C Q rest (a.put o.dst v)) : WQ P ops C Q (o :: rest) a :=
  ⟨wpQ_val hw hr hk.h⟩
theorem WQ_call {Q : Act → Prop} {rest : List Oper} {v : Value} {f : FuncId} {args : Array Value} (hw : Region.wanted o (yielded ops a.tmps) = true) (hr : ∀ w, C w → (execOp a.eval o).run P w = .ok (.enter f args) w)
    (hc : ∀ w, C w → Calls P f args w fun e w'' => e = .returned v ∧ C w'') (hk : WQ P ops C Q rest (a.put o.dst v)) : WQ P ops C Q (o :: rest) a := ⟨wpQ_call hw hr hc hk.h⟩
theorem WQ_skip {Q : Act → Prop} {rest : List Oper} (hw : Region.wanted o (yielded ops a.tmps) = false) (hk : WQ P ops C Q rest (a.put o.dst undef)) : WQ P ops C Q (o :: rest) a := ⟨wpQ_skip hw hk.h⟩
theorem WQ_nil {Q : Act → Prop} (h : Q a) : WQ P ops C Q [] a := ⟨wpQuiet_nil h⟩
theorem wq_region_from {id : Nat} {Q : Exit → Act → World → Prop} {w : World} {l : List Oper} (hm : P.follows .mixedOrders = true) (hB : Region.lexB .any l.toArray = true)
    (h : WQ P l.toArray (From w) (fun a' => ∀ w', From w w' → Q .normal a' w') l a) : (Code.region id l.toArray true).wp P Q a w := wp_region_from hm hB h.h
theorem wq_region_from_still {id : Nat} {Q : Exit → Act → World → Prop} {w : World} {l : List Oper}
    (h : WQ P l.toArray (From w) (fun a' => ∀ w', From w w' → Q .normal a' w') l a) : (Code.region id l.toArray false).wp P Q a w := wp_region_from_still h.h
end
end Go.Proofs.Ytmklapbecdhnmaa
namespace Go.Proofs.Ytmklapbecdhnmaa
open Go.RowKit
theorem leaf_any {w : World} (g o : Nat) (a : Option Addr) (n c : Nat) (h : w.cell? ⟨g, o + 1, none⟩ = some (.slice a n c)) :
    Calls Try.prog 44 #[.pointer (some ⟨g, o, none⟩)] w fun e w' => e = .returned (.bool ((n : Int) == 0)) ∧ w = w' := by
  go_enter Try.func44, Try.ntmps44
  go_wp2
  go_ret
  exact ⟨rfl, rfl⟩
theorem size_any {w : World} (g o : Nat) (a : Option Addr) (n c : Nat) (h : w.cell? ⟨g, o, none⟩ = some (.slice a n c)) (b : Option Addr) (m d : Nat) (h2 : w.cell? ⟨g, o + 1, none⟩ = some (.slice b m d)) (hn : n ≤ 1000) (hm : m ≤ 1000) :
    Calls Try.prog 33 #[.pointer (some ⟨g, o, none⟩)] w fun e w' => e = .returned (.int .i64 ((n : Int) + m)) ∧ From w w' := by
  have hs : IntKind.i64.wrap ((n : Int) + (m : Int)) = (n : Int) + m := IntWalk.i64_in _ (by omega)
  go_enter Try.func33, Try.ntmps33
  go_wp2
  first | (refine wq_region_from_still ?_) | (refine wq_region_from (by kernel_rfl) (by kernel_rfl) ?_)
  repeat
    first
      | ((refine WQ_skip (by rfl) ?_); (try simp only [Act.put, zzT, zzO, zzS]))
      | (apply WQ_val (by rfl); (focus (intro w' hC; (have e0 := From.cell hC h; have e1 := From.cell hC h2); go_simp; (first | done | exact rfl | (rw [if_pos (by omega)]; done) | (exact str_idx (by omega))))); (try simp only [Act.put, zzT, zzO, zzS]))
      | (apply WQ_call (by rfl); (focus (intro w' hC; go_simp; (first | done | exact rfl | exact ⟨rfl, rfl⟩))); (focus (intro w' hC; first | fail)); (try simp only [Act.put, zzT, zzO, zzS]))
  refine WQ_nil ?_
  intro wq hq
  go_wp2
  go_ret
  exact ⟨rfl, hq⟩
theorem len_any {w : World} {V : TV} {T : TD} (h : TA w V T) (hr : T.root < T.nodes.length) :
    Calls Try.prog 22 #[.pointer (some ⟨V.bT, 0, none⟩)] w fun e w' => e = .returned (.int .i64 (T.len : Int)) ∧ From w w' := by
  have k0 := h.blk
  have n2 := cell_of h.row _ (h.cel T.root hr).2.2
  have hl := h.cap
  have hm := h.max
  unfold maxLen at hm
  unfold treeC TV.nv at k0
  have c0 := cell_of k0 0 rfl
  have c2 := cell_of k0 2 rfl
  go_enter Try.func22, Try.ntmps22
  go_wp2
  first | (refine wq_region_from_still ?_) | (refine wq_region_from (by kernel_rfl) (by kernel_rfl) ?_)
  repeat
    first
      | ((refine WQ_skip (by rfl) ?_); (try simp only [Act.put, zzT, zzO, zzS]))
      | (apply WQ_val (by rfl); (focus (intro w' hC; (have e0 := From.cell hC c0; have e2 := From.cell hC c2; have e3 := From.cell hC n2); go_simp; (first | done | exact rfl | (rw [if_pos (by omega)]; done) | (exact str_idx (by omega))))); (try simp only [Act.put, zzT, zzO, zzS]))
      | (apply WQ_call (by rfl); (focus (intro w' hC; go_simp; (first | done | exact rfl | exact ⟨rfl, rfl⟩))); (focus (intro w' hC; first | fail)); (try simp only [Act.put, zzT, zzO, zzS]))
  refine WQ_nil ?_
  intro wq hq
  go_wp2
  go_ret
  exact ⟨rfl, hq⟩
end Go.Proofs.Ytmklapbecdhnmaa
namespace Go.Proofs.Ytmklapbecdhnmaa
open Go.RowKit
def partC (T : TD) (x : ND) (n : Nat) : Nat := x.lines.length + T.counts (x.kids.take n)
theorem partC_zero (T : TD) (x : ND) : partC T x 0 = x.lines.length := by simp [partC, TD.counts]
theorem partC_succ (T : TD) (x : ND) (n : Nat) (h : n < x.kids.length) : partC T x (n + 1) = partC T x n + (T.get (x.kids[n])).count := by
  unfold partC TD.counts
  rw [List.take_succ_eq_append_getElem h, List.map_append, List.sum_append]
  simp
  omega
theorem partC_le (T : TD) (x : ND) (n : Nat) : partC T x n ≤ x.lines.length + T.counts x.kids := by
  unfold partC TD.counts
  have h : ∀ (l : List Nat) (n : Nat), ((l.take n).map fun j => (T.get j).count).sum ≤ (l.map fun j => (T.get j).count).sum := by
    intro l
    induction l with
    | nil => intro n; simp
    | cons a l ih =>
      intro n
      cases n with
      | zero => simp
      | succ n => simp only [List.take_succ_cons, List.map_cons, List.sum_cons]; have := ih n; omega
  have := h x.kids n
  omega
theorem partC_all (T : TD) (x : ND) : partC T x x.kids.length = x.lines.length + T.counts x.kids := by simp [partC]
theorem node_cells {w : World} {V : TV} {T : TD} (h : TA w V T) {k : Nat} (hk : k < T.nodes.length) : k * 3 + 3 ≤ V.C.size := by
  have := h.siz
  have := h.cap
  omega
set_option maxRecDepth 100000 in
set_option maxHeartbeats 4000000 in
theorem sum_any {w : World} {V : TV} {T : TD} (h : TA w V T) {k : Nat} (hf : T.fine k) :
    Calls Try.prog 31 #[.pointer (some ⟨V.bT, 0, none⟩), .int .i64 (k : Int)] w fun e w' => e = .returned (.tuple #[]) ∧ TA w' { V with C := V.C.setIfInBounds (k * 3 + 2) (.int .i64 (((T.get k).lines.length + T.counts (T.get k).kids : Nat) : Int)) } (T.sum k) ∧ Upd (fun b => b = V.gN) w w' := by
  have hH := Lib.hid h
  have hk := hf.lt
  obtain ⟨la, lc, el⟩ := (h.lin k hk).form
  obtain ⟨ka, kc, ek⟩ := (h.kid k hk).form
  have hll : (strsC (T.get k).lines).length = (T.get k).lines.length := by simp [strsC]
  have hkl : (natsC (T.get k).kids).length = (T.get k).kids.length := by simp [natsC]
  rw [hll] at el
  rw [hkl] at ek
  have HKR : Hid (Row w 3 (.slice ka (T.get k).kids.length kc) (natsC (T.get k).kids)) := Lib.hid (ek ▸ h.kid k hk)
  have HLE := Lib.hid el
  have HKE := Lib.hid ek
  obtain ⟨x0, x1, x2⟩ := h.cel k hk
  rw [el] at x0
  rw [ek] at x1
  have kN := h.row
  have hNs := node_cells h hk
  have hcap := h.cap
  have hmax := h.max
  unfold maxLen at hmax
  have kT := h.blk
  unfold treeC TV.nv at kT
  have c0 := cell_of kT 0 rfl
  have n0 := cell_of kN _ x0
  have n1 := cell_of kN _ x1
  have hne : V.bT ≠ V.gN := fun e => by have := h.inj .T .N V.gN (by rw [← e]; rfl) rfl; cases this
  have hks : (T.get k).kids.length ≤ 100 := hf.kids
  have hlsz : (T.get k).lines.length ≤ 100 := hf.lines
  have HF := Lib.hid hf
  have HH1 := hH
  clear hH
  have HX := Lib.hid x2
  have HX1 := Lib.hid x1
  clear el ek hll hkl x0 x1 x2 h hf
  go_enter Try.func31, Try.ntmps31
  go_wp2_with (first
    | ((with_reducible refine stopSt 3 _ _ rfl ?_); unfold Stop; refine wpList_store_blk rfl 3 _ _ rfl V.gN (k * 3 + 2) rfl (.int .i64 ((T.get k).lines.length : Int)) rfl V.C (V.C.setIfInBounds (k * 3 + 2) (.int .i64 ((T.get k).lines.length : Int))) _ kN (by show k * 3 + 2 + 1 ≤ _; omega) (by kernel_rfl) rfl rfl ?_; intro w1 k1 hu1 hs1; have m1 := cell_of k1 (k * 3 + 1) (v := .slice ka (T.get k).kids.length kc) (by rw [Array.getElem?_setIfInBounds_ne (by omega)]; exact HX1.out)))
  have HK1 := Lib.hid k1
  have HU1 := Lib.hid hu1
  have HKT := Lib.hid kT
  clear k1 hu1 hs1 m1 n0 n1 c0 kN kT
  go_loopg [26] (T.get k).kids.length (fun gk iv wr => ∃ n : Nat, iv = .int .i64 (n : Int) ∧ n + gk = (T.get k).kids.length ∧ Hid (wr.heap[V.gN]? = some (.cells (V.C.setIfInBounds (k * 3 + 2) (.int .i64 (partC T (T.get k) n : Int))) 61 (0, 0))) ∧ Hid (Upd (fun b => b = V.gN) w wr))
  case atStart => exact ⟨0, rfl, by omega, Lib.hid (by rw [partC_zero]; exact HK1.out), HU1⟩
  case round =>
    obtain ⟨n, rfl, hgk, HC, HU⟩ := hrel
    by_cases hlt : n < (T.get k).kids.length
    · have hR : Row wr 3 (.slice ka (T.get k).kids.length kc) (natsC (T.get k).kids) := HKR.out.upd HU.out (fun b hb e => by
        have := HH1.out.inj (.K k) .N V.gN (by show (V.kv k).ownBlock = _; rw [HKE.out, hb, e]) rfl
        cases this)
      obtain ⟨g, hg⟩ := hR.addr (by simp [natsC]; omega)
      obtain ⟨j, hj⟩ : ∃ j, (T.get k).kids[n] = j := ⟨_, rfl⟩
      have hjm : j ∈ (T.get k).kids := by rw [← hj]; exact List.getElem_mem hlt
      obtain ⟨hjl, hjk⟩ := HF.out.each j hjm
      have e1 : wr.cell? ⟨g, n, none⟩ = some (.int .i64 (j : Int)) := by
        rw [hg] at hR
        have := hR.cells0 n (natV j) (by rw [natsC, List.getElem?_map, List.getElem?_eq_getElem hlt, hj]; rfl)
        rwa [Nat.zero_add] at this
      subst hg
      have kT := HU.out.heap HKT.out hne
      have c0 := cell_of kT 0 rfl
      have d2 := cell_of HC.out (k * 3 + 2) (v := .int .i64 (partC T (T.get k) n : Int)) (by rw [Array.getElem?_setIfInBounds_self_of_lt (by omega)])
      have dj := cell_of HC.out (j * 3 + 2) (v := .int .i64 ((T.get j).count : Int)) (by rw [Array.getElem?_setIfInBounds_ne (by omega)]; exact (HH1.out.cel j hjl).2.2)
      have HS : Hid (partC T (T.get k) (n + 1) = partC T (T.get k) n + (T.get j).count) := Lib.hid (by rw [partC_succ T (T.get k) n hlt, hj])
      have hb1 : partC T (T.get k) n + (T.get j).count ≤ 1000000 := by
        rw [← HS.out]
        exact Nat.le_trans (partC_le T (T.get k) (n + 1)) HF.out.counts
      have hsum : IntKind.i64.wrap ((partC T (T.get k) n : Int) + ((T.get j).count : Int)) = (partC T (T.get k) n : Int) + ((T.get j).count : Int) := IntWalk.i64_in _ (by omega)
      have HJ := Lib.hid hj
      clear hR hj hjm kT
      go_upto_region 5 with fail
      obtain ⟨wd, hwd⟩ : ∃ wd, wr.drew = wd := ⟨_, rfl⟩
      have c0d : wd.cell? ⟨V.bT, 0, none⟩ = some (.slice (some ⟨V.gN, 0, none⟩) T.nodes.length V.cN) := by rw [← hwd]; exact c0
      have d2d : wd.cell? ⟨V.gN, k * 3 + 2, none⟩ = some (.int .i64 (partC T (T.get k) n : Int)) := by rw [← hwd]; exact d2
      have djd : wd.cell? ⟨V.gN, j * 3 + 2, none⟩ = some (.int .i64 ((T.get j).count : Int)) := by rw [← hwd]; exact dj
      have HCd : Hid (wd.heap[V.gN]? = some (.cells (V.C.setIfInBounds (k * 3 + 2) (.int .i64 (partC T (T.get k) n : Int))) 61 (0, 0))) := Lib.hid (by rw [← hwd]; exact HC.out)
      have HUd : Hid (Upd (fun b => b = V.gN) w wd) := Lib.hid (by rw [← hwd]; exact HU.out.drew)
      clear e1 c0 d2 dj
      refine wp_region_seq (fun v => v = wd) (fun i => i != 15) [(0, true), (1, true), (2, true), (3, true), (4, true), (5, true), (6, true), (7, true), (8, true), (9, true), (10, true), (11, true), (12, true), (13, true), (14, true), (15, false)] (by exact rfl) (by kernel_rfl) (by intro c a d v w h; cases d <;> exact h) ?_
      rw [hwd]; have hS : wd = wd := rfl
      iterate 15 (((apply seq_val2 rfl (by rfl); (focus (intro w' hS'; subst hS'; go_simp; (first | done | exact rfl | (rw [if_pos (by omega)]; done)))); (focus exact hS))); (try simp only [Act.put, zzT, zzO, zzS]))
      refine seq_loud2 rfl (fun K hK => ?_)
      rw [if_pos (by rfl)]; refine wp_store_blk 3 _ _ rfl V.gN (k * 3 + 2) rfl (.int .i64 ((partC T (T.get k) n : Int) + ((T.get j).count : Int))) (by simp [Act.put, Act.eval, hsum]) _ _ _ HCd.out (by rw [Array.size_setIfInBounds]; show k * 3 + 2 + 1 ≤ V.C.size; omega) (by kernel_rfl) rfl rfl ?_; intro w4 k4 hu4 hs4; refine hK _ _ (fun e => by cases e) ?_; clear hK K
      (try simp only [Act.put, zzT, zzO, zzS])
      refine seq_nil ?_
      go_wp2
      go_roundg (gk - 1)
      case measure => omega
      case rel =>
        refine ⟨n + 1, by go_num, by omega, Lib.hid ?_, Lib.hid (HUd.out.then hu4 (fun _ _ h => h))⟩
        rw [HS.out, Int.natCast_add, k4]
        simp [spl, Value.cells]
    · have hn : n = (T.get k).kids.length := by omega
      subst hn
      go_wp2_with fail
      go_end0
      have hC := HC.out
      rw [partC_all] at hC
      exact ⟨rfl, HH1.out.count hk _ HU.out hC, HU.out⟩
end Go.Proofs.Ytmklapbecdhnmaa
namespace Go.Proofs.Ytmklapbecdhnmaa
open Go.RowKit
theorem find_step (T : TD) (a : Nat) (r : List Nat) (n i : Nat) : T.find (a :: r) n i = if i < (T.get a).count ∨ r = [] then (n, i) else T.find r (n + 1) (i - (T.get a).count) := by
  cases r with
  | nil => simp [TD.find]
  | cons b r =>
    rw [TD.find]
    by_cases h : i < (T.get a).count
    · rw [if_pos h, if_pos (.inl h)]
    · rw [if_neg h, if_neg (by simp [h])]
set_option maxRecDepth 100000 in
set_option maxHeartbeats 4000000 in
theorem find_any {w : World} {V : TV} {T : TD} (h : TA w V T) {k : Nat} (hf : T.fine k) (i : Nat) (hi : i ≤ 10000000) :
    Calls Try.prog 46 #[.pointer (some ⟨V.bT, 0, none⟩), .int .i64 (k : Int), .int .i64 (i : Int)] w fun e w' => e = .returned (.tuple #[.int .i64 ((T.find (T.get k).kids 0 i).1 : Int), .int .i64 ((T.find (T.get k).kids 0 i).2 : Int)]) ∧ w = w' := by
  have HH := Lib.hid h
  have hk := hf.lt
  obtain ⟨ka, kc, ek⟩ := (h.kid k hk).form
  have hkl : (natsC (T.get k).kids).length = (T.get k).kids.length := by simp [natsC]
  rw [hkl] at ek
  have HKR : Hid (Row w 3 (.slice ka (T.get k).kids.length kc) (natsC (T.get k).kids)) := Lib.hid (ek ▸ h.kid k hk)
  have x1 := (h.cel k hk).2.1
  rw [ek] at x1
  have hcap := h.cap
  have hmax := h.max
  unfold maxLen at hmax
  have kT := h.blk
  unfold treeC TV.nv at kT
  have c0 := cell_of kT 0 rfl
  have n1 := cell_of h.row _ x1
  have hks : (T.get k).kids.length ≤ 100 := hf.kids
  have HF := Lib.hid hf
  obtain ⟨R, hR⟩ : ∃ R, T.find (T.get k).kids 0 i = R := ⟨_, rfl⟩
  have HR := Lib.hid hR
  rw [hR]
  clear ek hkl x1 h hf hR kT
  go_enter Try.func46, Try.ntmps46
  go_wp2
  go_loopg [2, 22] (T.get k).kids.length (fun gk iv nv wr => ∃ n i' : Nat, iv = .int .i64 (i' : Int) ∧ nv = .int .i64 (n : Int) ∧ n + gk = (T.get k).kids.length ∧ i' ≤ 10000000 ∧ (n = 0 ∨ n < (T.get k).kids.length) ∧ Hid ((0 < (T.get k).kids.length → T.find ((T.get k).kids.drop n) n i' = R) ∧ (n = 0 → i' = i)) ∧ wr = w)
  case atStart => exact ⟨0, i, rfl, rfl, by omega, hi, .inl rfl, Lib.hid ⟨fun _ => HR.out, fun _ => rfl⟩, rfl⟩
  case round =>
    obtain ⟨n, i', rfl, rfl, hgk, hi', hn0, HI, rfl⟩ := hrel
    by_cases hlt : n < (T.get k).kids.length
    · obtain ⟨g, hg⟩ := HKR.out.addr (by simp [natsC]; omega)
      obtain ⟨j, hj⟩ : ∃ j, (T.get k).kids[n] = j := ⟨_, rfl⟩
      have hjm : j ∈ (T.get k).kids := by rw [← hj]; exact List.getElem_mem hlt
      obtain ⟨hjl, hjk⟩ := HF.out.each j hjm
      have e1 : wr.cell? ⟨g, n, none⟩ = some (.int .i64 (j : Int)) := by
        have hR := HKR.out
        rw [hg] at hR
        have := hR.cells0 n (natV j) (by rw [natsC, List.getElem?_map, List.getElem?_eq_getElem hlt, hj]; rfl)
        rwa [Nat.zero_add] at this
      subst hg
      have dj := cell_of HH.out.row (j * 3 + 2) (HH.out.cel j hjl).2.2
      have hst : T.find ((T.get k).kids.drop n) n i' = if i' < (T.get j).count ∨ (T.get k).kids.drop (n + 1) = [] then (n, i') else T.find ((T.get k).kids.drop (n + 1)) (n + 1) (i' - (T.get j).count) := by
        rw [List.drop_eq_getElem_cons hlt, hj, find_step]
      rw [HI.out.1 (by omega)] at hst
      have hdl : (T.get k).kids.drop (n + 1) = [] ↔ n + 1 = (T.get k).kids.length := by
        rw [List.drop_eq_nil_iff]
        omega
      have hs1 : IntKind.i64.wrap (((T.get k).kids.length : Int) - 1) = ((T.get k).kids.length : Int) - 1 := IntWalk.i64_in _ (by omega)
      have HST := Lib.hid hst
      have HDL := Lib.hid hdl
      clear hst hdl hj hjm
      by_cases hc : i' < (T.get j).count
      · have gc : (i' : Int) < ((T.get j).count : Int) := by omega
        have HRR : Hid (R = (n, i')) := Lib.hid (by rw [HST.out, if_pos (.inl hc)])
        go_wp2
        go_ret2
        exact ⟨by rw [HRR.out]; rfl, rfl⟩
      · have gc : ¬ (i' : Int) < ((T.get j).count : Int) := by omega
        by_cases hl : n + 1 = (T.get k).kids.length
        · have gl : ((n : Int) == ((T.get k).kids.length : Int) - 1) = true := beq_iff_eq.2 (by omega)
          have HRR : Hid (R = (n, i')) := Lib.hid (by rw [HST.out, if_pos (.inr (HDL.out.2 hl))])
          go_wp2
          go_ret2
          exact ⟨by rw [HRR.out]; rfl, rfl⟩
        · have gl : ((n : Int) == ((T.get k).kids.length : Int) - 1) = false := beq_eq_false_iff_ne.2 (by omega)
          have hs2 : IntKind.i64.wrap ((i' : Int) - ((T.get j).count : Int)) = (i' : Int) - ((T.get j).count : Int) := IntWalk.i64_in _ (by omega)
          have HRR : Hid (T.find ((T.get k).kids.drop (n + 1)) (n + 1) (i' - (T.get j).count) = R) := Lib.hid (by rw [HST.out, if_neg (by rw [HDL.out]; omega)])
          have hcc : ((i' : Int) - ((T.get j).count : Int)) = ((i' - (T.get j).count : Nat) : Int) := by omega
          have HCC := Lib.hid hcc
          clear hcc
          go_wp2
          go_roundg (gk - 1)
          case measure => omega
          case rel => exact ⟨n + 1, i' - (T.get j).count, by rw [HCC.out], by go_num, by omega, by omega, .inr (by omega), Lib.hid ⟨fun _ => HRR.out, fun e => by omega⟩, rfl⟩
    · have hn : n = 0 := by omega
      subst hn
      have hk0 : (T.get k).kids = [] := List.eq_nil_of_length_eq_zero (by omega)
      have hR2 := HR.out
      have hi2 := HI.out.2 rfl
      rw [hk0] at hR2
      have HRR : Hid (R = (0, i')) := Lib.hid (by rw [← hR2, hi2]; rfl)
      clear hk0 hR2 hi2
      go_wp2
      go_ret2
      exact ⟨by rw [HRR.out]; rfl, rfl⟩
theorem find_le (T : TD) : ∀ (ks : List Nat) (n i : Nat), (T.find ks n i).2 ≤ i
  | [], n, i => Nat.le_refl _
  | [_], n, i => Nat.le_refl _
  | a :: b :: ks, n, i => by
    rw [TD.find]
    split
    · exact Nat.le_refl _
    · have := find_le T (b :: ks) (n + 1) (i - (T.get a).count)
      omega
set_option maxRecDepth 100000 in
set_option maxHeartbeats 4000000 in
theorem at_any {w : World} {V : TV} {T : TD} (h : TA w V T) (f i j m : Nat) (hs : SafeAt T f T.root i) (ha : T.at f T.root i = some (j, m)) (hi : i ≤ 10000000) :
    Calls Try.prog 35 #[.pointer (some ⟨V.bT, 0, none⟩), .int .i64 (i : Int)] w fun e w' => e = .returned (.tuple #[.int .i64 (j : Int), .int .i64 (m : Int)]) ∧ w = w' := by
  have HH := Lib.hid h
  have kT := h.blk
  have hcap := h.cap
  have hmax := h.max
  unfold maxLen at hmax
  unfold treeC TV.nv at kT
  have c0 := cell_of kT 0 (v := .slice (some ⟨V.gN, 0, none⟩) T.nodes.length V.cN) rfl
  have c2 := cell_of kT 2 (v := .int .i64 (T.root : Int)) rfl
  have HS := Lib.hid hs
  have HA := Lib.hid ha
  clear h kT hs ha
  go_enter Try.func35, Try.ntmps35
  go_wp2
  go_loopg [1, 6] f (fun gk iv kv wr => ∃ k i' : Nat, iv = .int .i64 (i' : Int) ∧ kv = .int .i64 (k : Int) ∧ i' ≤ 10000000 ∧ Hid (SafeAt T gk k i') ∧ Hid (T.at gk k i' = some (j, m)) ∧ wr = w)
  case atStart => exact ⟨T.root, i, rfl, rfl, hi, HS, HA, rfl⟩
  case round =>
    obtain ⟨k, i', rfl, rfl, hi', HS2, HA2, rfl⟩ := hrel
    cases gk with
    | zero => exact HS2.out.elim
    | succ g =>
      have hf := HS2.out.1
      have hk := hf.lt
      have hks : (T.get k).kids.length ≤ 100 := hf.kids
      obtain ⟨ka, kc, ek⟩ := (HH.out.kid k hk).form
      have hkl : (natsC (T.get k).kids).length = (T.get k).kids.length := by simp [natsC]
      rw [hkl] at ek
      have HKR : Hid (Row wr 3 (.slice ka (T.get k).kids.length kc) (natsC (T.get k).kids)) := Lib.hid (ek ▸ HH.out.kid k hk)
      have x1 := (HH.out.cel k hk).2.1
      rw [ek] at x1
      have n1 := cell_of HH.out.row _ x1
      have HF := Lib.hid hf
      clear ek hkl x1 hf
      by_cases hl : (T.get k).kids = []
      · have h0 : (((T.get k).kids.length : Int) == 0) = true := by rw [hl]; rfl
        have HR : Hid ((k, i') = (j, m)) := Lib.hid (by
          have := HA2.out
          rw [TD.at, if_pos hl] at this
          injection this)
        clear hl
        go_wp2_with (go_at_call 44; refine (leaf_any _ _ _ _ _ n1).mono ?_; rintro e w9 ⟨rfl, rfl⟩)
        go_ret2
        have h2 := HR.out
        injection h2 with h3 h4
        subst h3 h4
        exact ⟨rfl, rfl⟩
      · have h0 : (((T.get k).kids.length : Int) == 0) = false := beq_eq_false_iff_ne.2 (fun e => hl (List.eq_nil_of_length_eq_zero (by omega)))
        obtain ⟨hlt, hs2⟩ := HS2.out.2 hl
        obtain ⟨r1, r2, hr⟩ : ∃ r1 r2, T.find (T.get k).kids 0 i' = (r1, r2) := ⟨_, _, rfl⟩
        have hle := find_le T (T.get k).kids 0 i'
        have ha2 := HA2.out
        rw [TD.at, if_neg hl] at ha2
        rw [hr] at hlt hs2 ha2 hle
        simp only [] at hlt hs2 ha2 hle
        have HR := Lib.hid hr
        obtain ⟨g0, hg⟩ := HKR.out.addr (by simp [natsC]; omega)
        obtain ⟨q, hq⟩ : ∃ q, (T.get k).kids.getD r1 0 = q := ⟨_, rfl⟩
        rw [hq] at hs2 ha2
        have e1 : wr.cell? ⟨g0, r1, none⟩ = some (.int .i64 (q : Int)) := by
          have hR := HKR.out
          rw [hg] at hR
          have := hR.cells0 r1 (natV q) (by rw [natsC, List.getElem?_map, List.getElem?_eq_getElem hlt, ← hq, List.getD_eq_getElem?_getD, List.getElem?_eq_getElem hlt]; rfl)
          rwa [Nat.zero_add] at this
        subst hg
        have HS3 := Lib.hid hs2
        have HA3 := Lib.hid ha2
        clear hr hl hs2 ha2 hq
        go_wp2_with (first
          | (go_at_call 44; refine (leaf_any _ _ _ _ _ n1).mono ?_; rintro e w9 ⟨rfl, rfl⟩)
          | (go_at_call 46; refine (find_any HH.out HF.out i' hi').mono ?_; rintro e w9 ⟨rfl, rfl⟩; rw [HR.out]))
        go_roundg g
        case measure => omega
        case rel => exact ⟨q, r2, rfl, rfl, by omega, HS3, HA3, rfl⟩
end Go.Proofs.Ytmklapbecdhnmaa
