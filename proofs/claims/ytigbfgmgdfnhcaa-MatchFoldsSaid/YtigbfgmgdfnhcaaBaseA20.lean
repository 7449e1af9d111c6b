/- Lemmas that the law's proof stands on, part 20: SndC, Pinv, Pinw. No condition. -/
import Derived.Test.YtigbfgmgdfnhcaaBaseA0
import Derived.Laws.MakeOwn
import Derived.Test.YtigbfgmgdfnhcaaBaseA2
import Derived.Test.YtigbfgmgdfnhcaaBaseA17
import Derived.Test.YtigbfgmgdfnhcaaBaseA19
set_option linter.all false
set_option linter.unusedVariables false
set_option linter.unusedSimpArgs false
namespace Go.Proofs.Ytigbfgmgdfnhcaa
open Go.RowKit
theorem made_one (v : Value) (n : Nat) : madeCells #[v] (n * 1) = (List.replicate n v).toArray := by
  apply Array.toList_inj.1
  rw [Nat.mul_one]
  unfold madeCells
  apply List.ext_getElem
  · simp
  · intro i h1 h2
    simp [Nat.mod_one]
section
variable {P : Program} {op : Oper} {a : Act} {w : World} {K : Act → World → Prop} {Q : Exit → Act → World → Prop}
theorem wp_make_blk (l c : Operand) (t : TypeId) (hop : op.op = Op.makeSlice t l c) (e : TypeId) (i : TypeInfo) (v : Value) (bytes : Nat) (h1 : P.underlying t = some (.slice e)) (h2 : P.info? e = some i) (h3 : i.zero = some v) (h4 : i.size = 1) (h5 : i.bytes = bytes) (hv : v.cells = #[v])
    (n : Nat) (hl : a.eval l = .int .i64 (n : Nat)) (hc : a.eval c = .int .i64 (n : Nat)) (b2 : bytes * n ≤ 281474976710656) (b3 : n ≤ 9223372036854775807)
    (hK : ∀ b w', w.heap.size = b → w'.heap[b]? = some (.cells (List.replicate n v).toArray e (0, 0)) → Upd (fun _ => False) w w' → w'.heap.size = b + 1 → K (a.put op.dst (.slice (some ⟨b, 0, none⟩) n n)) w') : op.wp P a w K Q := by
  subst h5
  have hr := run_make (P := P) w t e i v h1 h2 h3 .i64 .i64 (n : Int) (n : Int) (by omega) (Int.le_refl _) (by rw [← Int.natCast_mul]; omega) (by omega)
  rw [h4, hv, Int.toNat_natCast, made_one] at hr
  unfold Oper.wp
  simp only [execOp, hop, hl, hc, hr, Result.andThen, Sem.run_bind, Sem.run_pure]
  obtain ⟨g1, g2, g3⟩ := new_facts w (.cells (List.replicate n v).toArray e)
  exact hK _ _ rfl g1 g2 g3
theorem wp_box_blk (ty : TypeId) (x : Operand) (ho : op.op = .box ty x) (v : Value) (hx : a.eval x = v) (Z : Array Value) (hZ : v.cells = Z)
    (h : ∀ b w', w.heap.size = b → w'.heap[b]? = some (.cells Z ty (0, 0)) → Upd (fun _ => False) w w' → w'.heap.size = b + 1 → K (a.put op.dst (.pointer (some ⟨b, 0, none⟩))) w') : op.wp P a w K Q := by
  subst hZ hx
  unfold Oper.wp execOp
  simp only [ho, Sem.run_bind, Instr.box, newVar, newRow, run_newObj_alloc, Sem.run_pure, Result.andThen_ok]
  obtain ⟨g1, g2, g3⟩ := new_facts w (.cells (a.eval x).cells ty)
  exact h _ _ rfl g1 g2 g3
end
theorem info_bool : (Try.prog.info? 4).map (fun i => (i.zero, i.size, i.bytes)) = some (some (.bool false), 1, 1) := by kernel_rfl
theorem sound_any (p : PatD) (hl : p.nodes.length ≤ 1000) (hkl : ∀ k, (p.nodes.getD k .zero).kids.length ≤ 1000) (nv : Value) (kvs : List Value) (bW bS : Nat) : ∀ (f : Nat) (w : World) (k : Nat) (seen : List Bool) (b : Bool) (seen2 : List Bool), WkAt w bW bS p nv kvs seen → soundF p f k seen = some (b, seen2) →
    Calls Try.prog 64 #[.pointer (some ⟨bW, 0, none⟩), .int .i64 k] w fun e w' => e = .returned (.bool b) ∧ WkAt w' bW bS p nv kvs seen2 ∧ Upd (fun j => j = bS) w w'
  | 0, w, k, seen, b, seen2, _, h => by unfold soundF at h; cases h
  | f + 1, w, k, seen, b, seen2, hw, h => sound_step hw k f hl hkl b seen2 (fun w k seen b seen2 => sound_any p hl hkl nv kvs bW bS f w k seen b seen2) h
set_option maxRecDepth 100000 in
set_option maxHeartbeats 4000000 in
theorem Sound_any {w : World} {p : PatD} {nv : Value} {kvs : List Value} (h : PatAt w nv kvs p.nodes) (hl : p.nodes.length ≤ 1000) (hkl : ∀ k, (p.nodes.getD k .zero).kids.length ≤ 1000) (b : Bool) (hq : soundP p = some b) :
    Calls Try.prog 44 #[.agg (patC p nv)] w fun e w' => e = .returned (.bool b) ∧ Upd (fun _ => False) w w' := by
  have hU0 := Upd.refl (fun _ => False) w
  have hz := Nat.le_refl w.heap.size
  have HP := Lib.hid h
  obtain ⟨i0, hi, hz0, hz1', hz2⟩ := info_parts info_bool
  obtain ⟨ga, gc, rfl⟩ : ∃ a c, nv = .slice a p.nodes.length c := by
    rcases h.own.2 with ⟨rfl, h0⟩ | ⟨g, cap, cur, rfl, _⟩
    · exact ⟨none, 0, by rw [h0]⟩
    · exact ⟨_, cap, rfl⟩
  have HQ := Lib.hid hq
  have HKL := Lib.hid hkl
  clear h hq hkl
  go_enter Try.func44, Try.ntmps44
  go_wp2_with (first
    | ((with_reducible refine stopBx 69 _ rfl ?_); unfold Stop; refine wpList_box_blk rfl 69 _ rfl _ (by go_simp; first | done | exact rfl) (patC p (.slice ga p.nodes.length gc)) rfl ?_; intro bP wn hbn kn hUn hsn; have gP : w.heap.size ≤ bP := Nat.le_trans hU0.size (Nat.le_of_eq hbn); have kP := kn; replace hU0 := hU0.then hUn (fun _ _ h => h.elim); replace hz : w.heap.size ≤ wn.heap.size := (by omega); clear kn hUn hsn hbn; have cP := cells_of kP; (try simp only [rdC, nodeC, tokC, setC, zzT, zzO, zzS] at cP); have fP := frees_of kP))
  unfold patC at kP
  have c0 := cell_of kP 0 (v := .slice ga p.nodes.length gc) rfl
  clear cP fP
  refine wp_region_seq (fun v => Upd (fun _ => False) wn v) (fun i => i != 99) [(0, true), (1, true), (2, true), (3, true), (4, false), (5, true), (6, false), (7, true)] (by exact rfl) (by kernel_rfl) (by intro c a d v w h; cases d <;> exact h) ?_
  have hS : Upd (fun _ => False) wn wn.drew := (Upd.refl _ wn).drew
  (apply seq_val2 rfl (by rfl); (focus (intro w' hS'; have s0 := hS'.cell c0 (fun h => h); exact exec_load_blk 69 _ rfl bP rfl 69 _ (0, 0) _ (hS'.heap kP (fun h => h)) Try.underlying69 rfl (by kernel_rfl))); (focus exact hS))
  (try simp only [Act.put, zzT, zzO, zzS])
  iterate 3 (((apply seq_val2 rfl (by rfl); (focus (intro w' hS'; have s0 := hS'.cell c0 (fun h => h); go_simp; (first | done | exact rfl | (rw [if_pos (by omega)]; done)))); (focus exact hS))); (try simp only [Act.put, zzT, zzO, zzS]))
  refine seq_loud2 rfl (fun K hK => ?_)
  rw [if_pos (by rfl)]; refine wp_make_blk _ _ 120 rfl 4 i0 (.bool false) 1 Try.underlying120 hi hz0 hz1' hz2 rfl p.nodes.length rfl rfl (by omega) (by omega) ?_; intro bS w3 hbS kS hu3 hs3; have hS3 := hS.then hu3 (fun _ _ h => h); have hbs := hS.size; clear hS; have hS := hS3; clear hS3; refine hK _ _ (fun _ => hS) ?_; clear hK K
  (try simp only [Act.put, zzT, zzO, zzS])
  (apply seq_val2 rfl (by rfl); (focus (intro w' hS'; have s0 := hS'.cell c0 (fun h => h); go_simp; (first | done | exact rfl | (rw [if_pos (by omega)]; done)))); (focus exact hS))
  (try simp only [Act.put, zzT, zzO, zzS])
  refine seq_loud2 rfl (fun K hK => ?_)
  rw [if_pos (by rfl)]; refine wp_box_blk 122 _ rfl _ rfl #[.slice ga p.nodes.length gc, .int .i64 p.root, .int .i64 p.groups, .int .u8 p.case, .slice (some ⟨bS, 0, none⟩) p.nodes.length p.nodes.length] rfl ?_; intro bW w4 hbW kW hu4 hs4; have hS4 := hS.then hu4 (fun _ _ h => h); have kS4 := hu4.heap kS (fun h => h); clear hS; have hS := hS4; clear hS4; refine hK _ _ (fun _ => hS) ?_; clear hK K
  (try simp only [Act.put, zzT, zzO, zzS])
  (apply seq_val2 rfl (by rfl); (focus (intro w' hS'; have s0 := hS'.cell c0 (fun h => h); go_simp; (first | done | exact rfl | (rw [if_pos (by omega)]; done)))); (focus exact hS))
  (try simp only [Act.put, zzT, zzO, zzS])
  refine seq_nil ?_
  have hU4 := hU0.then hS (fun _ _ h => h)
  have kP4 := hS.heap kP (fun h => h)
  have hWk : WkAt w4 bW bS p (.slice ga p.nodes.length gc) kvs (List.replicate p.nodes.length false) := by
    refine ⟨HP.out.newer (hU4.mono (fun _ _ h => h.elim)), kW, by rw [kS4, List.map_replicate], by simp, fun v hv e => ?_⟩
    obtain ⟨j, hj, e2⟩ := List.getElem_of_mem hv
    have h3 := (HP.out.kids j (by rw [HP.out.len]; exact hj) hj).2 bS (by rw [e2]; exact e)
    have h4 := hU0.size
    omega
  have HWK := Lib.hid hWk
  have HU4 := Lib.hid hU4
  have g1 := cell_of kP4 1 (v := .int .i64 p.root) rfl
  have g2 := cell_of kP4 2 (v := .int .i64 p.groups) rfl
  have hbs2 : w.heap.size ≤ bS := by have := hU0.size; omega
  clear hS hU4 kP4 kW kS kS4 hu3 hu4 hWk hs3 hs4 hbW hbS hbs c0 kP hU0 hz
  have HQ2 := Lib.hid HQ.out
  unfold soundP at HQ2
  by_cases h9 : 9 < p.groups
  · rw [if_pos h9] at HQ2
    have e := Option.some.inj HQ2.out
    subst e
    have g9 : ¬ (p.groups : Int) ≤ 9 := by omega
    clear h9 HQ HQ2
    go_wp2
    go_ret
    exact ⟨rfl, HU4.out⟩
  · rw [if_neg h9] at HQ2
    have g9 : (p.groups : Int) ≤ 9 := by omega
    cases hs : soundF p (p.nodes.length + 1) p.root (List.replicate p.nodes.length false) with
    | none => have := HQ2.out; rw [hs] at this; cases this
    | some q =>
      obtain ⟨b2, s2⟩ := q
      have e := HQ2.out
      rw [hs] at e
      have e := Option.some.inj e
      subst e
      have HS := Lib.hid hs
      clear hs HQ HQ2 h9
      go_wp2_with (first
        | (go_at_call 64; refine (sound_any p hl HKL.out _ kvs bW bS _ _ p.root _ _ s2 HWK.out HS.out).mono ?_; rintro e w5 ⟨rfl, hW5, hu5⟩))
      go_ret
      have h6 := HU4.out.size
      exact ⟨rfl, HU4.out.then hu5 (fun i hi (e : i = bS) => by omega)⟩
end Go.Proofs.Ytigbfgmgdfnhcaa
namespace Go.Proofs.Ytigbfgmgdfnhcaa
open Go.RowKit
structure NodeOK (n : NodeD) : Prop where
  kl : n.kids.length ≤ 1000
  one : n.op = 7 ∨ n.op = 8 → n.kids.length = 1
  mn0 : 0 ≤ n.min
  mn : n.min ≤ 60
  mx : n.max ≤ 60
  n0 : 0 ≤ n.n
  n9 : n.n ≤ 9
/-- Each node is good, its kids stand ahead of it. -/
def NodesOK (ns : List NodeD) : Prop := ∀ i (h : i < ns.length), NodeOK ns[i] ∧ ∀ j, j ∈ ns[i].kids → j < i
structure PInv (st : RdD) (b : BrD) : Prop where
  ok : NodesOK st.nodes
  kb : ∀ j, j ∈ b.kids → j < st.nodes.length
  may : b.may = true → b.kids ≠ []
structure PStp (st : RdD) (b : BrD) (st2 : RdD) (b2 : BrD) : Prop where
  inv : PInv st2 b2
  kids : b2.kids.length ≤ b.kids.length + 1
  grow : st.nodes.length ≤ st2.nodes.length
theorem NodesOK.snoc {ns : List NodeD} (h : NodesOK ns) {n : NodeD} (h1 : NodeOK n) (h2 : ∀ j, j ∈ n.kids → j < ns.length) : NodesOK (ns ++ [n]) := by
  intro i hi
  by_cases hl : i < ns.length
  · rw [List.getElem_append_left hl]; exact h i hl
  · obtain rfl : i = ns.length := by simp at hi; omega
    rw [List.getElem_append_right (Nat.le_refl _)]
    simp only [Nat.sub_self, List.getElem_cons_zero]
    exact ⟨h1, h2⟩
theorem node_inv {st : RdD} {n : NodeD} (h : NodesOK st.nodes) (h1 : NodeOK n) (h2 : ∀ j, j ∈ n.kids → j < st.nodes.length) : NodesOK (st.node n).2.nodes ∧ (st.node n).1 < (st.node n).2.nodes.length ∧ st.nodes.length ≤ (st.node n).2.nodes.length := by
  unfold RdD.node
  split
  · exact ⟨h, by show 0 < st.nodes.length; omega, Nat.le_refl _⟩
  · exact ⟨h.snoc h1 h2, by simp, by simp⟩
theorem ok_plain {op c : Int} {set : SetD} (h : op ≠ 7 ∧ op ≠ 8) : NodeOK { op := op, c := c, set := set } := ⟨by simp, fun e => e.elim (fun e => absurd e h.1) (fun e => absurd e h.2), by simp, by simp, by simp, by simp, by simp⟩
theorem PStp.laid {st : RdD} {b : BrD} (h : PInv st b) {n : NodeD} (h1 : NodeOK n) (h2 : ∀ j, j ∈ n.kids → j < st.nodes.length) (m : Bool) : PStp st b (st.laid b n m).1 (st.laid b n m).2 := by
  obtain ⟨g1, g2, g3⟩ := node_inv h.ok h1 h2
  refine ⟨⟨g1, fun j hj => ?_, fun _ => by simp [RdD.laid, BrD.piece]⟩, by simp [RdD.laid, BrD.piece], g3⟩
  simp only [RdD.laid, BrD.piece, List.mem_append, List.mem_singleton] at hj
  rcases hj with hj | hj
  · exact Nat.lt_of_lt_of_le (h.kb j hj) g3
  · rw [hj]; exact g2
theorem PStp.plain {st : RdD} {b : BrD} (h : PInv st b) {op c : Int} {set : SetD} (ho : op ≠ 7 ∧ op ≠ 8) (m : Bool) : PStp st b (st.laid b { op := op, c := c, set := set } m).1 (st.laid b { op := op, c := c, set := set } m).2 :=
  PStp.laid h (ok_plain ho) (fun j hj => by simp at hj) m
theorem PInv.pos {st st2 : RdD} {b : BrD} (h : PInv st b) (hn : st2.nodes = st.nodes) : PInv st2 b := ⟨by rw [hn]; exact h.ok, by rw [hn]; exact h.kb, h.may⟩
theorem PStp.same {st st2 : RdD} {b : BrD} (h : PInv st b) (hn : st2.nodes = st.nodes) : PStp st b st2 b := ⟨h.pos hn, Nat.le_succ _, by rw [hn]; exact Nat.le_refl _⟩
theorem PStp.wrong {st : RdD} {b : BrD} (h : PInv st b) (e : Int) (i : Nat) : PStp st b (st.wrong e i) b := PStp.same h (wrong_nodes st e i)
theorem PStp.of {st0 st : RdD} {b b2 : BrD} {st2 : RdD} (h : PStp st b st2 b2) (hn : st.nodes.length = st0.nodes.length) : PStp st0 b st2 b2 := ⟨h.inv, h.kids, by rw [← hn]; exact h.grow⟩
theorem PStp.put {st : RdD} {b b2 : BrD} {st2 : RdD} (h : PStp st b st2 b2) (p : Nat) : PStp st b { st2 with pos := p } b2 := ⟨h.inv.pos rfl, h.kids, h.grow⟩
theorem bracesB_ok {l : List UInt8} {lz : Bool} {lo mx : Int} {i k : Nat} {n : NodeD} (h0 : 0 ≤ lo) (h : bracesB l lz lo mx i = some (n, k)) : 0 ≤ n.min ∧ n.min ≤ 60 ∧ n.max ≤ 60 ∧ n.n = 0 := by
  unfold bracesB at h
  simp only [] at h
  generalize (if i < l.length ∧ bl l i = 92 then i + 1 else i) = j at h
  split at h
  · cases h
  · rename_i hc
    have e := Option.some.inj h
    simp only [Prod.mk.injEq] at e
    rw [← e.1]
    refine ⟨h0, ?_, ?_, rfl⟩
    · simp only []; omega
    · simp only []; omega
theorem digit_lo {b : Int} (h : digitB b = true) : 48 ≤ b := (btw_iff.1 h).1
theorem numL_lo (l : List UInt8) : ∀ (f : Nat) (n : Int) (k : Nat), 0 ≤ n → 0 ≤ (numL l f n k).1
  | 0, n, k, h => h
  | f + 1, n, k, h => by
    unfold numL
    split
    · rename_i hc
      have := digit_lo hc.2
      exact numL_lo l f _ _ (by omega)
    · exact h
theorem bracesF_ok {l : List UInt8} {i k : Nat} {n : NodeD} (h : bracesF l i = some (n, k)) : 0 ≤ n.min ∧ n.min ≤ 60 ∧ n.max ≤ 60 ∧ n.n = 0 := by
  have hA : ∀ lz j, bracesA l lz j = some (n, k) → 0 ≤ n.min ∧ n.min ≤ 60 ∧ n.max ≤ 60 ∧ n.n = 0 := by
    intro lz j h
    have h0 : 0 ≤ (numberF l j).1 := numL_lo l 4 0 j (by omega)
    unfold bracesA at h
    simp only [] at h
    split at h
    · cases h
    · split at h
      · split at h
        · cases h
        · exact bracesB_ok h0 h
      · exact bracesB_ok h0 h
  unfold bracesF at h
  split at h
  · exact hA _ _ h
  · exact hA _ _ h
theorem last_mem : ∀ {ks : List Nat}, ks ≠ [] → ks.getLastD 0 ∈ ks
  | [], h => absurd rfl h
  | [a], _ => by simp
  | a :: b :: l, _ => by
    have := last_mem (ks := b :: l) (by simp)
    rw [show (a :: b :: l).getLastD 0 = (b :: l).getLastD 0 by simp [List.getLastD_eq_getLast?]]
    exact List.mem_cons_of_mem _ this
theorem PStp.bound {st : RdD} {b : BrD} (h : PInv st b) (hm : b.kids ≠ []) {n : NodeD} (h0 : 0 ≤ n.min) (h1 : n.min ≤ 60) (h2 : n.max ≤ 60) (h3 : n.n = 0) (nx : Nat) : PStp st b (st.bound b n nx).1 (st.bound b n nx).2 := by
  have hok : NodeOK { n with kids := [b.kids.getLastD 0] } := ⟨by simp, fun _ => by simp, h0, h1, h2, by show 0 ≤ n.n; omega, by show n.n ≤ 9; omega⟩
  obtain ⟨g1, g2, g3⟩ := node_inv h.ok hok (fun j hj => by simp only [List.mem_singleton] at hj; rw [hj]; exact h.kb _ (last_mem hm))
  refine ⟨⟨g1, fun j hj => ?_, fun e => by simp [RdD.bound] at e⟩, ?_, g3⟩
  · simp only [RdD.bound, List.mem_append, List.mem_singleton] at hj
    rcases hj with hj | hj
    · exact Nat.lt_of_lt_of_le (h.kb j (List.dropLast_subset _ hj)) g3
    · rw [hj]; exact g2
  · simp only [RdD.bound, List.length_append, List.length_dropLast, List.length_cons, List.length_nil]
    omega
theorem PStp.many {st : RdD} {b : BrD} (h : PInv st b) (l : List UInt8) (c : Int) (i next : Nat) : PStp st b (st.many l b c i next).1 (st.many l b c i next).2 := by
  unfold RdD.many
  split
  · split
    · rename_i hc
      exact (PStp.plain h (op := 2) (c := c) (set := .zero) ⟨by decide, by decide⟩ true).put next
    · exact PStp.wrong h _ _
  · rename_i hm
    have hk := h.may (by cases e : b.may; exact absurd e hm; rfl)
    split
    · split
      · exact PStp.wrong h _ _
      · rename_i m e hb
        obtain ⟨g1, g2, g3, g4⟩ := bracesF_ok hb
        exact PStp.bound h hk g1 g2 g3 g4 _
    · refine PStp.bound h hk ?_ ?_ ?_ rfl _
      · simp only []; split <;> decide
      · simp only []; split <;> decide
      · simp only []; split <;> decide
def RecP (rec : RdD → Option (Nat × RdD)) : Prop := ∀ (st : RdD) (k : Nat) (st2 : RdD), NodesOK st.nodes → rec st = some (k, st2) → NodesOK st2.nodes ∧ k < st2.nodes.length ∧ st.nodes.length ≤ st2.nodes.length
theorem PInv.up {st st2 : RdD} {b : BrD} (h : PInv st b) (h2 : NodesOK st2.nodes) (h3 : st.nodes.length ≤ st2.nodes.length) : PInv st2 b := ⟨h2, fun j hj => Nat.lt_of_lt_of_le (h.kb j hj) h3, h.may⟩
theorem PStp.group {rec : RdD → Option (Nat × RdD)} (hr : RecP rec) {st st2 : RdD} {b b2 : BrD} (h : PInv st b) {l : List UInt8} {i : Nat} (hq : st.group rec l b i = some (st2, b2)) : PStp st b st2 b2 := by
  have go : ∀ q : RdD × BrD, PStp st b q.1 q.2 → some q = some (st2, b2) → PStp st b st2 b2 := by
    intro q hs e
    have e := Option.some.inj e
    rw [e] at hs
    exact hs
  unfold RdD.group at hq
  split at hq
  · exact go _ (PStp.wrong h _ _) hq
  · split at hq
    · cases hq
    · rename_i h9 _ k s1 hrec
      obtain ⟨h1, h2, h3⟩ := hr { st with groups := st.groups + 1 } k s1 h.ok hrec
      have h3 : st.nodes.length ≤ s1.nodes.length := h3
      have hI : PInv s1 b := h.up h1 h3
      split at hq
      · exact go _ ⟨hI, Nat.le_succ _, h3⟩ hq
      · split at hq
        · refine go _ ?_ hq
          have := PStp.wrong hI 31 i
          exact ⟨this.inv, this.kids, Nat.le_trans h3 this.grow⟩
        · refine go _ ?_ hq
          have hk : NodeOK { op := 8, n := ((st.groups + 1 : Nat) : Int), kids := [k] } := ⟨by simp, fun _ => by simp, by simp, by simp, by simp, by show (0 : Int) ≤ ((st.groups + 1 : Nat) : Int); omega, by show ((st.groups + 1 : Nat) : Int) ≤ 9; omega⟩
          have := PStp.laid (st := { s1 with pos := (tokenF l s1.mode s1.case s1.pos).1.next, done := s1.done.set (st.groups + 1) true }) (hI.pos rfl) hk (fun j hj => by simp only [List.mem_singleton] at hj; rw [hj]; exact h2) true
          exact ⟨this.inv, this.kids, Nat.le_trans h3 this.grow⟩
theorem PStp.sign {rec : RdD → Option (Nat × RdD)} (hr : RecP rec) {st st2 : RdD} {b b2 : BrD} (h : PInv st b) {l : List UInt8} {c : Int} {i next : Nat} (hq : st.sign rec l b c i next = some (st2, b2)) : PStp st b st2 b2 := by
  have hF : PInv { st with pos := next } b := h.pos rfl
  have go : ∀ q : RdD × BrD, PStp { st with pos := next } b q.1 q.2 → some q = some (st2, b2) → PStp st b st2 b2 := by
    intro q hs e
    have e := Option.some.inj e
    rw [e] at hs
    exact hs.of rfl
  have hl : ∀ (op c : Int) (set : SetD) (m : Bool), op ≠ 7 ∧ op ≠ 8 → PStp { st with pos := next } b (({ st with pos := next } : RdD).laid b { op := op, c := c, set := set } m).1 (({ st with pos := next } : RdD).laid b { op := op, c := c, set := set } m).2 := fun op c set m ho => PStp.plain hF ho m
  unfold RdD.sign at hq
  simp only [] at hq
  split at hq
  · split at hq
    · exact go _ (hl 10 0 .zero false (by decide)) hq
    · exact go _ (hl 2 c .zero true (by decide)) hq
  · split at hq
    · split at hq
      · exact go _ (hl 11 0 .zero false (by decide)) hq
      · exact go _ (hl 2 c .zero true (by decide)) hq
    · split at hq
      · exact go _ (hl 3 0 .zero true (by decide)) hq
      · split at hq
        · exact go _ (hl 12 0 .zero false (by decide)) hq
        · split at hq
          · exact go _ (hl 13 0 .zero false (by decide)) hq
          · split at hq
            · exact go _ (hl 1 0 .zero true (by decide)) hq
            · split at hq
              · have hc := coll_nodes2 { st with pos := next } l (next - 1)
                have hC : PInv (({ st with pos := next } : RdD).collection l (next - 1)).2.2 b := hF.pos hc
                split at hq
                · refine go _ (PStp.of ?_ (congrArg List.length hc)) hq
                  exact (PStp.plain (st := { (({ st with pos := next } : RdD).collection l (next - 1)).2.2 with pos := (({ st with pos := next } : RdD).collection l (next - 1)).2.1 }) (hC.pos rfl) (op := 4) (c := 0) (set := (({ st with pos := next } : RdD).collection l (next - 1)).1) (by decide) true).of rfl
                · exact go _ (PStp.of (PStp.plain hC (op := 2) (c := c) (set := .zero) (by decide) true) (congrArg List.length hc)) hq
              · split at hq
                · exact (PStp.group hr hF hq).of rfl
                · exact go _ (PStp.many hF l c i next) hq
end Go.Proofs.Ytigbfgmgdfnhcaa
namespace Go.Proofs.Ytigbfgmgdfnhcaa
open Go.RowKit
theorem row_inv {st : RdD} {op : Int} {ks : List Nat} (h : NodesOK st.nodes) (ho : op ≠ 7 ∧ op ≠ 8) (hk : ∀ j, j ∈ ks → j < st.nodes.length) (hl : ks.length ≤ 1000) :
    NodesOK (st.row op ks).2.nodes ∧ (st.row op ks).1 < (st.row op ks).2.nodes.length ∧ st.nodes.length ≤ (st.row op ks).2.nodes.length := by
  match ks, hk, hl with
  | [], _, _ => exact node_inv h (ok_plain (c := 0) (set := .zero) (by decide)) (fun j hj => by simp at hj)
  | [k], hk, _ => exact ⟨h, hk k (by simp), Nat.le_refl _⟩
  | a :: b :: ks, hk, hl => exact node_inv h ⟨hl, fun e => e.elim (fun e => absurd e ho.1) (fun e => absurd e ho.2), by simp, by simp, by simp, by simp, by simp⟩ hk
def nodeIn (q : TokD × Bool) : Prop := NodeOK q.1.node
theorem nodeIn_of {t : TokD} {b : Bool} (h : NodeOK t.node) : nodeIn (t, b) := h
theorem ok_zero : NodeOK .zero := ok_plain (op := 0) (c := 0) (set := .zero) (by decide)
theorem slash_node (l : List UInt8) (mode cs : Int) (i : Nat) : nodeIn (slashF l mode cs i) := by
  have h2 : ∀ c : Int, NodeOK { op := 2, c := c } := fun c => ok_plain (op := 2) (c := c) (set := .zero) (by decide)
  have h4 : ∀ s : SetD, NodeOK { op := 4, set := s } := fun s => ok_plain (op := 4) (c := 0) (set := s) (by decide)
  have h14 : NodeOK { op := 14 } := ok_plain (op := 14) (c := 0) (set := .zero) (by decide)
  have h15 : NodeOK { op := 15 } := ok_plain (op := 15) (c := 0) (set := .zero) (by decide)
  have h9 : 49 ≤ bl l (i + 1) ∧ bl l (i + 1) ≤ 57 → NodeOK { op := 9, n := bl l (i + 1) - 48 } := fun h => ⟨by simp, fun e => by simp at e, by simp, by simp, by simp, by show 0 ≤ bl l (i + 1) - 48; omega, by show bl l (i + 1) - 48 ≤ 9; omega⟩
  unfold slashF
  repeat' (first
    | exact nodeIn_of ok_zero
    | exact nodeIn_of (h2 _)
    | exact nodeIn_of (h4 _)
    | exact nodeIn_of h14
    | exact nodeIn_of h15
    | (refine ite_ind2 nodeIn (fun h => nodeIn_of (h9 h)) ?_)
    | refine ite_ind nodeIn ?_ ?_)
theorem token_node (l : List UInt8) (mode cs : Int) (i : Nat) : NodeOK (tokenF l mode cs i).1.node := by
  have h2 : ∀ c : Int, NodeOK { op := 2, c := c } := fun c => ok_plain (op := 2) (c := c) (set := .zero) (by decide)
  have : nodeIn (tokenF l mode cs i) := by
    unfold tokenF
    exact ite_ind nodeIn (slash_node l mode cs i) (ite_ind nodeIn (nodeIn_of ok_zero) (nodeIn_of (h2 _)))
  exact this
theorem branchL_inv {rec : RdD → Option (Nat × RdD)} (hr : RecP rec) {l : List UInt8} {within : Bool} {M : Nat} : ∀ (g : Nat) (st st2 : RdD) (b b2 : BrD), PInv st b → b.kids.length + g ≤ M → branchL rec l within g st b = some (st2, b2) → PInv st2 b2 ∧ b2.kids.length ≤ M ∧ st.nodes.length ≤ st2.nodes.length
  | 0, st, st2, b, b2, _, _, h => by unfold branchL at h; cases h
  | g + 1, st, st2, b, b2, hF, hM, h => by
    have fin : ∀ q : RdD × BrD, q = (st2, b2) → PStp st b q.1 q.2 → PInv st2 b2 ∧ b2.kids.length ≤ M ∧ st.nodes.length ≤ st2.nodes.length := by
      intro q e hs
      rw [e] at hs
      exact ⟨hs.inv, by have := hs.kids; simp only [] at this; omega, hs.grow⟩
    have on : ∀ (s1 : RdD) (b1 : BrD), PStp st b s1 b1 → branchL rec l within g s1 b1 = some (st2, b2) → PInv st2 b2 ∧ b2.kids.length ≤ M ∧ st.nodes.length ≤ st2.nodes.length := by
      intro s1 b1 hs h2
      obtain ⟨g1, g2, g3⟩ := branchL_inv (M := M) hr g s1 st2 b1 b2 hs.inv (by have := hs.kids; omega) h2
      exact ⟨g1, g2, Nat.le_trans hs.grow g3⟩
    by_cases hs : st.err ≠ 0 ∨ l.length ≤ st.pos
    · exact fin _ (bl_stop h hs).symm (PStp.same hF rfl)
    · obtain ⟨q, ht⟩ : ∃ q, tokenF l st.mode st.case st.pos = q := ⟨_, rfl⟩
      obtain ⟨t, ok⟩ := q
      cases ok
      · exact fin _ (bl_bad h hs ht rfl).symm (PStp.wrong hF _ _)
      · cases hn : t.non
        · have h2 := bl_rest h hs ht hn
          split at h2
          · exact fin _ (Option.some.inj h2) (PStp.same hF rfl)
          · split at h2
            · exact fin _ (Option.some.inj h2) (PStp.wrong hF _ _)
            · split at h2
              · split at h2
                · cases h2
                · rename_i s1 b1 hsg
                  exact on s1 b1 (PStp.sign hr hF hsg) h2
              · split at h2
                · exact fin _ (Option.some.inj h2) (PStp.wrong hF _ _)
                · refine on _ _ ?_ h2
                  have hk : t.node.kids = [] := by have := token_kids l st.mode st.case st.pos; rw [ht] at this; exact this
                  have hb := token_node l st.mode st.case st.pos
                  rw [ht] at hb
                  exact (PStp.laid (st := { st with pos := t.next }) (hF.pos rfl) hb (fun j hj => by rw [hk] at hj; simp at hj) _).of rfl
        · exact on { st with mode := t.mode, case := t.case, pos := t.next } b (PStp.same hF rfl) (bl_non h hs ht hn)
theorem branchF_inv {rec : RdD → Option (Nat × RdD)} (hr : RecP rec) {l : List UInt8} {within : Bool} {st st2 : RdD} {k : Nat} (hl : l.length ≤ 900) (h : NodesOK st.nodes) (hq : branchF rec l within st = some (k, st2)) : NodesOK st2.nodes ∧ k < st2.nodes.length ∧ st.nodes.length ≤ st2.nodes.length := by
  unfold branchF at hq
  split at hq
  · cases hq
  · rename_i s b hb
    obtain ⟨g1, g2, g3⟩ := branchL_inv hr (M := l.length + 1) _ _ _ _ _ (show PInv st ⟨[], false⟩ from ⟨h, fun j hj => by simp at hj, fun e => by cases e⟩) (by simp) hb
    obtain ⟨r1, r2, r3⟩ := row_inv (op := 5) g1.ok (by decide) g1.kb (by omega)
    have e := Option.some.inj hq
    rw [e] at r1 r2 r3
    exact ⟨r1, r2, Nat.le_trans g3 r3⟩
theorem branchesL_inv {rec : RdD → Option (Nat × RdD)} (hr : RecP rec) {l : List UInt8} {within : Bool} (hl : l.length ≤ 900) {M : Nat} : ∀ (g : Nat) (st st2 : RdD) (ks ks2 : List Nat), NodesOK st.nodes → (∀ j, j ∈ ks → j < st.nodes.length) → ks.length + g ≤ M → branchesL rec l within g st ks = some (st2, ks2) → NodesOK st2.nodes ∧ (∀ j, j ∈ ks2 → j < st2.nodes.length) ∧ ks2.length ≤ M ∧ st.nodes.length ≤ st2.nodes.length
  | 0, st, st2, ks, ks2, _, _, _, h => by unfold branchesL at h; cases h
  | g + 1, st, st2, ks, ks2, hF, hk, hM, h => by
    have fin : (st, ks) = (st2, ks2) → NodesOK st2.nodes ∧ (∀ j, j ∈ ks2 → j < st2.nodes.length) ∧ ks2.length ≤ M ∧ st.nodes.length ≤ st2.nodes.length := by
      intro e
      rw [Prod.mk.injEq] at e
      rw [← e.1, ← e.2]
      exact ⟨hF, hk, by omega, Nat.le_refl _⟩
    by_cases hs : st.err ≠ 0 ∨ l.length ≤ st.pos
    · exact fin (bs_stop h hs).symm
    · by_cases ht : (tokenF l st.mode st.case st.pos).1.sign = 124
      · obtain ⟨k, s, h1, h2⟩ := bs_on h hs ht
        obtain ⟨g1, g2, g3⟩ := branchF_inv (st := { st with pos := (tokenF l st.mode st.case st.pos).1.next }) hr hl hF h1
        have g3 : st.nodes.length ≤ s.nodes.length := g3
        obtain ⟨r1, r2, r3, r4⟩ := branchesL_inv (M := M) hr hl g s st2 (ks ++ [k]) ks2 g1 (fun j hj => by
          rw [List.mem_append, List.mem_singleton] at hj
          rcases hj with hj | hj
          · exact Nat.lt_of_lt_of_le (hk j hj) g3
          · rw [hj]; exact g2) (by simp; omega) h2
        exact ⟨r1, r2, r3, Nat.le_trans g3 r4⟩
      · exact fin (bs_end h hs ht).symm
theorem branchesF_inv (l : List UInt8) (hl : l.length ≤ 900) (within : Bool) : ∀ d, RecP (branchesF l d within)
  | 0 => fun st k st2 _ h => by unfold branchesF at h; cases h
  | d + 1 => fun st k st2 hF h => by
    have hr := branchesF_inv l hl true d
    unfold branchesF at h
    split at h
    · cases h
    · rename_i k1 s1 h1
      obtain ⟨g1, g2, g3⟩ := branchF_inv hr hl hF h1
      split at h
      · cases h
      · rename_i s2 ks2 h2
        obtain ⟨r1, r2, r3, r4⟩ := branchesL_inv hr hl (M := l.length + 2) _ _ _ _ _ g1 (fun j hj => by simp only [List.mem_singleton] at hj; rw [hj]; exact g2) (by simp; omega) h2
        obtain ⟨q1, q2, q3⟩ := row_inv (op := 6) r1 (by decide) r2 (by omega)
        have e := Option.some.inj h
        rw [e] at q1 q2 q3
        exact ⟨q1, q2, Nat.le_trans g3 (Nat.le_trans r4 q3)⟩
/-- A pattern as Parse gives it. -/
structure PatOK (p : PatD) : Prop where
  ok : NodesOK p.nodes
  len : p.nodes.length ≤ 400
theorem PatOK.zero : PatOK .zero := ⟨fun i h => by simp [PatD.zero] at h, by simp [PatD.zero]⟩
theorem parseF_ok {l : List UInt8} {p : PatD} {e : Int} {pl : Nat} (h : parseF l = some (p, e, pl)) : PatOK p ∧ (e = 0 → p.root < p.nodes.length) := by
  have stop : ∀ (q : PatD × Int × Nat), q = (p, e, pl) → q.1 = .zero → q.2.1 ≠ 0 → PatOK p ∧ (e = 0 → p.root < p.nodes.length) := by
    intro q e1 h1 h2
    rw [e1] at h1 h2
    exact ⟨by rw [show p = .zero from h1]; exact PatOK.zero, fun h => absurd h h2⟩
  unfold parseF at h
  split at h
  · exact stop _ (Option.some.inj h) rfl (by decide)
  · rename_i hl
    split at h
    · cases h
    · rename_i k r hb
      split at h
      · rename_i he
        exact stop _ (Option.some.inj h) rfl he
      · split at h
        · exact stop _ (Option.some.inj h) rfl (by decide)
        · rename_i h4
          obtain ⟨g1, g2, _⟩ := branchesF_inv l (by omega) false 11 .start k r (fun i h => by simp [RdD.start] at h) hb
          have e1 := Option.some.inj h
          simp only [Prod.mk.injEq] at e1
          obtain ⟨rfl, _, _⟩ := e1
          exact ⟨⟨g1, by show r.nodes.length ≤ 400; omega⟩, fun _ => g2⟩
end Go.Proofs.Ytigbfgmgdfnhcaa
