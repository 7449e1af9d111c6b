/- Lemmas that the law's proof stands on, part 21: Wr, WrB, WrP. No condition. -/
import Derived.Test.YtigbfgmgdfnhcaaBaseA0
import Derived.Test.YtigbfgmgdfnhcaaBaseA2
import Derived.Test.YtigbfgmgdfnhcaaBaseA20
set_option linter.all false
set_option linter.unusedVariables false
set_option linter.unusedSimpArgs false
namespace Go.Proofs.Ytigbfgmgdfnhcaa
open Go.RowKit
def instC (i : InstD) : List Value := [.int .u8 i.op, .int .u8 i.c, .int .u64 i.set.a0, .int .u64 i.set.a1, .int .u64 i.set.a2, .int .u64 i.set.a3, .int .i64 i.x, .int .i64 i.y]
def codeC (l : List InstD) : List Value := l.flatMap instC
theorem codeC_snoc (l : List InstD) (i : InstD) : codeC (l ++ [i]) = codeC l ++ instC i := by simp [codeC]
theorem codeC_len (l : List InstD) : (codeC l).length = l.length * 8 := by
  induction l with
  | nil => rfl
  | cons a l ih => simp only [codeC, List.flatMap_cons, List.length_append, List.length_cons] at ih ⊢; rw [ih]; simp [instC]; omega
def wrC (p : PatD) (nv cv : Value) (st : WrD) : Array Value := #[nv, .int .i64 p.root, .int .i64 p.groups, .int .u8 p.case, cv, .int .i64 st.r, .bool st.long]
/-- A writer; since the world W it and what it owns, and new memory, alone have turned. -/
structure Wr (W : World) (B wb : Nat) (p : PatD) (nv : Value) (kvs : List Value) (cv0 : Value) (st : WrD) (cv : Value) (w : World) : Prop where
  blk : w.heap[wb]? = some (.cells (wrC p nv cv st) 101 (0, 0))
  own : w.ownsRow B 63 8 cv st.code.length (codeC st.code)
  pat : PatAt w nv kvs p.nodes
  upd : Upd (fun k => k = wb ∨ cv0.ownBlock = some k) W w
  cvn : ∀ g, cv.ownBlock = some g → cv0.ownBlock = some g ∨ W.heap.size ≤ g
  base : B ≤ W.heap.size
  wbb : B ≤ wb
  old : (∀ g, nv.ownBlock = some g → g < B) ∧ ∀ v, v ∈ kvs → ∀ g, v.ownBlock = some g → g < B
section
variable {W : World} {B wb : Nat} {p : PatD} {nv : Value} {kvs : List Value} {cv0 : Value} {st : WrD} {cv : Value} {w : World}
theorem Wr.cform (h : Wr W B wb p nv kvs cv0 st cv w) : ∃ a c, cv = .slice a st.code.length c := by
  rcases h.own.2 with ⟨rfl, h0⟩ | ⟨g, cap, cur, rfl, _⟩
  · exact ⟨none, 0, by rw [h0]⟩
  · exact ⟨_, cap, rfl⟩
theorem Wr.bse (h : Wr W B wb p nv kvs cv0 st cv w) : B ≤ w.heap.size := Nat.le_trans h.base h.upd.size
theorem Wr.cvne (h : Wr W B wb p nv kvs cv0 st cv w) : ∀ g, cv.ownBlock = some g → g ≠ wb ∧ B ≤ g ∧ g < w.heap.size := by
  intro g hg
  refine ⟨fun e => ?_, (h.own.lt g hg).1, (h.own.lt g hg).2⟩
  rcases h.own.2 with ⟨rfl, _⟩ | ⟨g', cap, cur, rfl, _, hb, _⟩
  · simp [Value.ownBlock] at hg
  · simp only [Value.ownBlock, Option.some.injEq] at hg
    subst hg
    rw [e, h.blk] at hb; simp at hb
theorem PatAt.high {w' : World} {F : Nat → Prop} (h : PatAt w nv kvs p.nodes) (old : (∀ g, nv.ownBlock = some g → g < B) ∧ ∀ v, v ∈ kvs → ∀ g, v.ownBlock = some g → g < B) (hu : Upd F w w') (hF : ∀ k, F k → B ≤ k) : PatAt w' nv kvs p.nodes := by
  refine ⟨ownsRow_upd h.own hu (fun g hg e => by have := old.1 g hg; have := hF g e; omega), h.len, fun i g1 g2 => ?_⟩
  obtain ⟨g3, g4⟩ := h.kids i g1 g2
  exact ⟨g3.upd hu (fun g hg e => by have := old.2 _ (List.getElem_mem g2) g hg; have := hF g e; omega), fun g hg => Nat.lt_of_lt_of_le (g4 g hg) hu.size⟩
theorem Wr.newer (h : Wr W B wb p nv kvs cv0 st cv w) {w' : World} (hu : Upd (fun k => w.heap.size ≤ k) w w') : Wr W B wb p nv kvs cv0 st cv w' := by
  have hsz := h.upd.size
  have hlt := heap_lt h.blk
  have hb := h.bse
  exact ⟨hu.heap h.blk (by omega), ownsRow_upd h.own hu (fun g hg => by have := h.cvne g hg; omega), h.pat.high h.old hu (fun k hk => by omega), h.upd.then hu (fun i hi (hh : _ ≤ i) => absurd hi (by omega)), h.cvn, h.base, h.wbb, h.old⟩
/-- The writer's own block turns alone. -/
theorem Wr.put (h : Wr W B wb p nv kvs cv0 st cv w) {w' : World} {st2 : WrD} (hk : w'.heap[wb]? = some (.cells (wrC p nv cv st2) 101 (0, 0))) (hu : Upd (fun k => k = wb) w w') (hc : st2.code = st.code) : Wr W B wb p nv kvs cv0 st2 cv w' :=
  ⟨hk, by rw [hc]; exact ownsRow_upd h.own hu (fun g hg e => (h.cvne g hg).1 e), h.pat.high h.old hu (fun k (hk : k = wb) => by rw [hk]; exact h.wbb), h.upd.then hu (fun _ _ e => .inl e), h.cvn, h.base, h.wbb, h.old⟩
/-- The code has turned, or has grown. -/
theorem Wr.grow (h : Wr W B wb p nv kvs cv0 st cv w) {w' : World} {st2 : WrD} {cv' : Value} (hk : w'.heap[wb]? = some (.cells (wrC p nv cv' st2) 101 (0, 0))) (ho : w'.ownsRow B 63 8 cv' st2.code.length (codeC st2.code)) (hu : Upd (fun k => k = wb ∨ cv.ownBlock = some k) w w') (hn : ∀ g, cv'.ownBlock = some g → cv.ownBlock = some g ∨ w.heap.size ≤ g) :
    Wr W B wb p nv kvs cv0 st2 cv' w' := by
  have hsz := h.upd.size
  refine ⟨hk, ho, h.pat.high h.old hu (fun k hk => hk.elim (fun e => by rw [e]; exact h.wbb) (fun e => (h.cvne k e).2.1)), h.upd.then hu (fun i hi e => ?_), fun g hg => ?_, h.base, h.wbb, h.old⟩
  · rcases e with e | e
    · exact .inl e
    · rcases h.cvn i e with e2 | e2
      · exact .inr e2
      · omega
  · rcases hn g hg with e | e
    · exact h.cvn g e
    · exact .inr (by omega)
end
theorem info_inst : (Try.prog.info? 63).map (fun i => (i.zero, i.size, i.bytes)) = some (some (.agg #[.int .u8 0, .int .u8 0, .int .u64 0, .int .u64 0, .int .u64 0, .int .u64 0, .int .i64 0, .int .i64 0]), 8, 56) := by kernel_rfl
def WrPost (W : World) (B wb : Nat) (p : PatD) (nv : Value) (kvs : List Value) (cv0 : Value) (r : Value) (st : WrD) (e : Ending) (w : World) : Prop := e = .returned r ∧ ∃ cv, Wr W B wb p nv kvs cv0 st cv w
theorem own_form8 {w : World} {B n : Nat} {v : Value} {xs : List Value} (h : w.ownsRow B 63 8 v (n + 1) xs) : ∃ g c, v = .slice (some ⟨g, 0, none⟩) (n + 1) c := by
  rcases h.2 with ⟨_, h0⟩ | ⟨g, cap, cur, rfl, _⟩
  · omega
  · exact ⟨g, cap, rfl⟩
theorem inst_cells {w : World} {b : Nat} {i : InstD} (h : w.heap[b]? = some (.cells (instC i).toArray 63 (0, 0))) : ∀ j u, (instC i)[j]? = some u → w.cell? ((⟨b, 0, none⟩ : Addr).add j) = some u := by
  intro j u hu
  rw [Addr.add_lit, Nat.zero_add]
  exact cell_of h j (by simpa using hu)
set_option maxRecDepth 100000 in
set_option maxHeartbeats 4000000 in
theorem lay_any {W : World} {B wb : Nat} {p : PatD} {nv : Value} {kvs : List Value} {cv0 : Value} {st : WrD} {cv : Value} {w : World} (h : Wr W B wb p nv kvs cv0 st cv w) (i : InstD) (hl : st.code.length ≤ 2001) :
    Calls Try.prog 46 #[.pointer (some ⟨wb, 0, none⟩), .agg (instC i).toArray] w (WrPost W B wb p nv kvs cv0 (.int .i64 ((st.lay i).1 : Nat)) (st.lay i).2) := by
  obtain ⟨ca, cc, rfl⟩ := h.cform
  have HW := Lib.hid h
  have k0 := h.blk
  have hU0 := Upd.refl (fun k => w.heap.size ≤ k) w
  have hz := Nat.le_refl w.heap.size
  clear h
  unfold WrD.lay
  have c0 := cells_of k0; (try simp only [wrC, instC, nodeC, patC, zzT, zzO, zzS] at c0); have f0 := frees_of k0
  by_cases hlt : 2000 < st.code.length
  · rw [if_pos hlt]
    have hlt2 : (2000 : Int) < (st.code.length : Int) := by omega
    go_enter Try.func46, Try.ntmps46
    go_wp2_with (first
      | ((with_reducible refine stopBx 63 _ rfl ?_); unfold Stop; refine wpList_box_blk rfl 63 _ rfl _ (by go_simp; first | done | exact rfl) (instC i).toArray rfl ?_; intro bI wn hbn kn hUn hsn; clear c0 f0; have l0I := heap_lt k0; rw [hbn] at l0I; replace k0 := hUn.heap k0 (fun h => h); have gI : w.heap.size ≤ bI := Nat.le_trans hU0.size (Nat.le_of_eq hbn); have kI := kn; replace hU0 := hU0.then hUn (fun _ _ h => h.elim); replace hz : w.heap.size ≤ wn.heap.size := (by omega); clear kn hUn hsn hbn; have cI := cells_of kI; (try simp only [wrC, instC, nodeC, patC, zzT, zzO, zzS] at cI); have fI := frees_of kI; have c0 := cells_of k0; (try simp only [wrC, instC, nodeC, patC, zzT, zzO, zzS] at c0); have f0 := frees_of k0)
      | ((with_reducible refine stopSt 4 _ _ rfl ?_); unfold Stop; refine wpList_store_blk rfl 4 _ _ rfl _ _ rfl _ (by go_simp; first | done | exact rfl) _ _ _ k0 (zzB rfl) (by kernel_rfl) rfl (by simp only [spl, wrC, Value.cells, zzT, zzO, zzS, Array.toList]; exact rfl) ?_; intro w kn hUn hsn; clear cI fI; have hN1 := (HW.out.newer hU0).put (st2 := { st with long := true }) kn hUn rfl; clear kn hUn hsn c0 f0 k0 hU0 hz))
    go_ret
    exact ⟨rfl, _, hN1⟩
  · rw [if_neg hlt]
    have hlt2 : ¬ (2000 : Int) < (st.code.length : Int) := by omega
    obtain ⟨i0, hi, hz0, hz3, hz4⟩ := info_parts info_inst
    unfold instC
    go_enter Try.func46, Try.ntmps46
    go_wp2_with (first
      | ((with_reducible refine stopBx 63 _ rfl ?_); unfold Stop; refine wpList_box_blk rfl 63 _ rfl _ (by go_simp; first | done | exact rfl) #[.int .u8 i.op, .int .u8 i.c, .int .u64 i.set.a0, .int .u64 i.set.a1, .int .u64 i.set.a2, .int .u64 i.set.a3, .int .i64 i.x, .int .i64 i.y] rfl ?_; intro bI wn hbn kn hUn hsn; clear c0 f0; have l0I := heap_lt k0; rw [hbn] at l0I; replace k0 := hUn.heap k0 (fun h => h); have gI : w.heap.size ≤ bI := Nat.le_trans hU0.size (Nat.le_of_eq hbn); have kI := kn; replace hU0 := hU0.then hUn (fun _ _ h => h.elim); replace hz : w.heap.size ≤ wn.heap.size := (by omega); clear kn hUn hsn hbn; have cI := cells_of kI; (try simp only [wrC, instC, nodeC, patC, zzT, zzO, zzS] at cI); have fI := frees_of kI; have c0 := cells_of k0; (try simp only [wrC, instC, nodeC, patC, zzT, zzO, zzS] at c0); have f0 := frees_of k0))
    have c4 := cell_of k0 4 (v := .slice ca st.code.length cc) rfl
    have hne : ¬ (Value.slice ca st.code.length cc).ownBlock = some wb := fun e => (HW.out.cvne wb e).1 rfl
    have HW1 := Lib.hid (HW.out.newer hU0)
    have hneI : ¬ (Value.slice ca st.code.length cc).ownBlock = some bI := fun e => by have := HW.out.cvne bI e; omega
    have hnlt : ∀ g, (Value.slice ca st.code.length cc).ownBlock = some g → g < wn.heap.size := fun g hg => (HW1.out.cvne g hg).2.2
    have HNLT := Lib.hid hnlt
    have hbs := HW1.out.bse
    clear c0 f0 cI fI hnlt
    refine wp_region_seq (fun v => Upd (fun k => (Value.slice ca st.code.length cc).ownBlock = some k) wn v) (fun i => i != 10) [(0, true), (1, true), (2, true), (3, true), (4, true), (5, true), (6, false), (7, false), (8, true), (9, true), (10, false)] (by exact rfl) (by kernel_rfl) (by intro c a d v w h; cases d <;> exact h) ?_
    have hS : Upd (fun k => (Value.slice ca st.code.length cc).ownBlock = some k) wn wn.drew := (Upd.refl _ wn).drew
    iterate 5 (((apply seq_val2 rfl (by rfl); (focus (intro w' hS'; have s4 := hS'.cell c4 hne; go_simp; (first | done | exact rfl | (rw [if_pos (by omega)]; done)))); (focus exact hS))); (try simp only [Act.put, zzT, zzO, zzS]))
    (apply seq_val2 rfl (by rfl); (focus (intro w' hS'; have s4 := hS'.cell c4 hne; exact exec_load_blk 63 _ rfl bI rfl 63 #[.int .u8 i.op, .int .u8 i.c, .int .u64 i.set.a0, .int .u64 i.set.a1, .int .u64 i.set.a2, .int .u64 i.set.a3, .int .i64 i.x, .int .i64 i.y] (0, 0) _ (hS'.heap kI hneI) Try.underlying63 rfl (by kernel_rfl))); (focus exact hS))
    (try simp only [Act.put, zzT, zzO, zzS])
    refine seq_loud2 rfl (fun K hK => ?_)
    go_simp; obtain ⟨w2, hw2, k2, hS2, hz2, hS0⟩ : ∃ w2, (wn.alloc (.cells #[.int .u8 i.op, .int .u8 i.c, .int .u64 i.set.a0, .int .u64 i.set.a1, .int .u64 i.set.a2, .int .u64 i.set.a3, .int .i64 i.x, .int .i64 i.y] 63)).drew = w2 ∧ w2.heap[wn.heap.size]? = some (.cells #[.int .u8 i.op, .int .u8 i.c, .int .u64 i.set.a0, .int .u64 i.set.a1, .int .u64 i.set.a2, .int .u64 i.set.a3, .int .i64 i.x, .int .i64 i.y] 63 (0, 0)) ∧ Upd (fun k => (Value.slice ca st.code.length cc).ownBlock = some k) wn w2 ∧ w2.heap.size = wn.heap.size + 1 ∧ Hid (Upd (fun _ => False) wn w2) := ⟨_, rfl, heap_alloc_new wn _, ((Upd.refl _ wn).alloc _).drew, by simp, Lib.hid ((Upd.refl _ wn).alloc _).drew⟩; rw [hw2]; clear hS; have hS := hS2; clear hS2 hw2; refine hK _ _ (fun _ => hS) ?_; clear hK K
    (try simp only [Act.put, zzT, zzO, zzS])
    refine seq_loud2 rfl (fun K hK => ?_)
    rw [if_pos (by rfl)]; refine wp_append_own2 _ _ _ 29 rfl B 63 i0 _ 8 56 Try.underlying29 hi hz0 hz3 hz4 rfl (by decide) (Value.slice ca st.code.length cc) _ _ rfl (ownsRow_upd HW1.out.own hS0.out (fun _ _ h => h)) ⟨wn.heap.size, 0, none⟩ 1 1 (instC i) rfl rfl (inst_cells k2) (by intro u hu; simp only [instC, List.mem_cons, List.not_mem_nil, or_false] at hu; rcases hu with rfl | rfl | rfl | rfl | rfl | rfl | rfl | rfl <;> rfl) (by unfold maxLen; omega) (by omega) (by omega) ?_; intro v3 w3 ho3 hg3 hn3; have hS3 : Upd (fun k => (Value.slice ca st.code.length cc).ownBlock = some k) wn w3 := hS.grown hg3 (fun k _ e => e); clear hS; have hS := hS3; clear hS3; obtain ⟨g4, c4', rfl⟩ := own_form8 ho3; have s33 := hS.cell c4 hne; have f33 := free_of (hS.heap k0 hne) 4; have hg3s := hg3.size; refine hK _ _ (fun _ => hS) ?_; clear hK K
    (try simp only [Act.put, zzT, zzO, zzS])
    iterate 2 (((apply seq_val2 rfl (by rfl); (focus (intro w' hS'; have s4 := hS'.cell c4 hne; go_simp; (first | done | exact rfl | (rw [if_pos (by omega)]; done)))); (focus exact hS))); (try simp only [Act.put, zzT, zzO, zzS]))
    refine seq_loud2 rfl (fun K hK => ?_)
    go_simp; refine hK _ _ (fun e => by cases e) ?_; clear hK K
    (try simp only [Act.put, zzT, zzO, zzS])
    refine seq_nil ?_
    have kR3 := hS.heap k0 hne
    have hb4 := heap_set kR3 4 (.slice (some ⟨g4, 0, none⟩) (st.code.length + 1) c4')
    have t3 := cell_of hb4 4 (v := .slice (some ⟨g4, 0, none⟩) (st.code.length + 1) c4') rfl
    clear s33 f33
    go_wp2
    go_ret
    have hgne : g4 ≠ wb := by
      intro e
      rcases hn3 with h3 | h3
      · exact hne (by rw [← h3, ← e]; rfl)
      · simp only [Value.ownBlock, Option.some.injEq] at h3
        have := heap_lt k0
        omega
    refine ⟨ret_int (by simp), _, HW1.out.grow (st2 := { st with code := st.code ++ [i] }) (cv' := .slice (some ⟨g4, 0, none⟩) (st.code.length + 1) c4') hb4 ?_ ((hS.mono (fun _ _ e => .inr e)).setCell (p := ⟨wb, 4, none⟩) (fun _ => .inl rfl) _) (fun g hg => ?_)⟩
    · have h5 := ownsRow_set (b := wb) (i := 4) ho3 (fun e => by simp only [Value.ownBlock, Option.some.injEq] at e; exact hgne e) (.slice (some ⟨g4, 0, none⟩) (st.code.length + 1) c4')
      simpa [codeC_snoc] using h5
    · rcases hn3 with h3 | h3
      · left; rw [← h3]; exact hg
      · right; rw [h3] at hg; simp only [Option.some.injEq] at hg; omega
end Go.Proofs.Ytigbfgmgdfnhcaa
namespace Go.Proofs.Ytigbfgmgdfnhcaa
open Go.RowKit
theorem codeC_put : ∀ (code : List InstD) (k : Nat) (x y : Int), k < code.length → codeC (code.set k { code.getD k .zero with x := x, y := y }) = ((codeC code).set (k * 8 + 6) (.int .i64 x)).set (k * 8 + 7) (.int .i64 y)
  | [], k, x, y, h => by simp at h
  | a :: l, 0, x, y, _ => by
    simp only [zzO, List.getD_cons_zero, codeC, List.flatMap_cons, instC, Nat.zero_mul, Nat.zero_add, List.cons_append, List.nil_append, zzS]
  | a :: l, k + 1, x, y, h => by
    have := codeC_put l k x y (by simpa using h)
    simp only [zzS, List.getD_cons_succ, codeC, List.flatMap_cons] at this ⊢
    rw [this, show (k + 1) * 8 + 6 = (k * 8 + 6) + 8 by omega, show (k + 1) * 8 + 7 = (k * 8 + 7) + 8 by omega]
    simp only [instC, List.cons_append, List.nil_append, zzS]
theorem own_form8k {w : World} {B n : Nat} {v : Value} {xs : List Value} (h : w.ownsRow B 63 8 v n xs) (hn : 0 < n) : ∃ g c cur, v = .slice (some ⟨g, 0, none⟩) n c ∧ w.heap[g]? = some (.cells cur 63 (0, 0)) ∧ n * 8 ≤ cur.size := by
  rcases h.2 with ⟨_, h0⟩ | ⟨g, cap, cur, rfl, _, hb, hnc, _, hsz, _⟩
  · omega
  · exact ⟨g, cap, cur, rfl, hb, by rw [hsz]; exact Nat.mul_le_mul_right 8 hnc⟩
theorem own_put {w w' : World} {B g c n k : Nat} {cur : Array Value} {code : List InstD} {x y : Int} (h : w.ownsRow B 63 8 (.slice (some ⟨g, 0, none⟩) n c) n (codeC code)) (hn : code.length = n) (hk : k < n) (hc : w.heap[g]? = some (.cells cur 63 (0, 0)))
    (hc' : w'.heap[g]? = some (.cells ((cur.setIfInBounds (k * 8 + 6) (.int .i64 x)).setIfInBounds (k * 8 + 7) (.int .i64 y)) 63 (0, 0))) : w'.ownsRow B 63 8 (.slice (some ⟨g, 0, none⟩) n c) n (codeC (code.set k { code.getD k .zero with x := x, y := y })) := by
  refine ⟨?_, ?_⟩
  · rw [codeC_len, List.length_set, hn]
  · rcases h.2 with ⟨hnil, h0⟩ | ⟨g', cap, cur2, hv, hbg, hb, hnc, hcm, hsz, htk⟩
    · cases hnil
    · injection hv with e1 e2 e3
      injection e1 with e1
      injection e1 with e1
      subst e1 e3
      rw [hb] at hc
      injection hc with hc
      injection hc with hc
      subst hc
      refine .inr ⟨g, c, _, rfl, hbg, hc', hnc, hcm, by simpa using hsz, ?_⟩
      rw [codeC_put _ _ _ _ (by omega), ← htk, Array.toList_setIfInBounds, Array.toList_setIfInBounds, List.take_set, List.take_set]
theorem put_again (cur : Array Value) (i j : Nat) (hij : i ≠ j) (a b c d : Value) : (((cur.setIfInBounds i a).setIfInBounds j b).setIfInBounds i c).setIfInBounds j d = (cur.setIfInBounds i c).setIfInBounds j d := by
  apply Array.toList_inj.1
  simp only [Array.toList_setIfInBounds]
  apply List.ext_getElem
  · simp
  · intro m h1 h2
    simp only [List.getElem_set]
    by_cases hm1 : j = m
    · simp [hm1]
    · by_cases hm2 : i = m
      · simp [hm2]
      · simp [hm1, hm2]
set_option maxRecDepth 100000 in
set_option maxHeartbeats 4000000 in
theorem to_any {W : World} {B wb : Nat} {p : PatD} {nv : Value} {kvs : List Value} {cv0 : Value} {st : WrD} {cv : Value} {w : World} (h : Wr W B wb p nv kvs cv0 st cv w) (k out : Nat) (lz : Bool) (hk : k < st.code.length) (hl : st.code.length ≤ 2001) :
    Calls Try.prog 83 #[.pointer (some ⟨wb, 0, none⟩), .int .i64 (k : Nat), .int .i64 (out : Nat), .bool lz] w (WrPost W B wb p nv kvs cv0 (.tuple #[]) (st.to k out lz)) := by
  obtain ⟨g, c, cur, rfl, k1, hsz⟩ := own_form8k h.own (by omega)
  have HW := Lib.hid h
  have k0 := h.blk
  have HG : Hid (¬ wb = g) := Lib.hid (fun e => (h.cvne g rfl).1 e.symm)
  have x1 := cells_of k1
  have y1 := frees_of k1
  have hki : (k : Int) < (st.code.length : Int) := by omega
  have hki0 : (0 : Int) ≤ (k : Int) := by omega
  clear h
  have c0 := cells_of k0; (try simp only [wrC, instC, nodeC, patC, zzT, zzO, zzS] at c0); have f0 := frees_of k0
  have q1 : ∃ u, cur[k * 8 + 6]? = some u := ⟨cur[k * 8 + 6], by rw [Array.getElem?_eq_getElem (by omega)]⟩
  have q2 : ∃ u, cur[k * 8 + 7]? = some u := ⟨cur[k * 8 + 7], by rw [Array.getElem?_eq_getElem (by omega)]⟩
  cases lz
  · go_enter Try.func83, Try.ntmps83
    go_wp2_with (first
      | ((with_reducible refine stopSt 3 _ _ rfl ?_); unfold Stop; refine wpList_store_blk rfl 3 _ _ rfl g (k * 8 + 6) rfl (.int .i64 ((k : Int) + 1)) rfl cur (Array.setIfInBounds (cur) (k * 8 + 6) (.int .i64 ((k : Int) + 1))) _ k1 (by first | (show k * 8 + 6 + 1 ≤ cur.size; omega) | (simp only [Array.size_setIfInBounds]; show k * 8 + 6 + 1 ≤ cur.size; omega)) (by kernel_rfl) rfl rfl ?_; intro w2 k2 hu2 hs2; replace k0 := hu2.heap k0 HG.out; clear c0 f0; have c0 := cells_of k0; (try simp only [wrC, instC, nodeC, patC, zzT, zzO, zzS] at c0); have f0 := frees_of k0; have x2 := cells_of k2; have y2 := frees_of k2)
      | ((with_reducible refine stopSt 3 _ _ rfl ?_); unfold Stop; refine wpList_store_blk rfl 3 _ _ rfl g (k * 8 + 7) rfl (.int .i64 (out : Nat)) rfl (Array.setIfInBounds cur (k * 8 + 6) (.int .i64 ((k : Int) + 1))) (Array.setIfInBounds (Array.setIfInBounds cur (k * 8 + 6) (.int .i64 ((k : Int) + 1))) (k * 8 + 7) (.int .i64 (out : Nat))) _ k2 (by first | (show k * 8 + 7 + 1 ≤ cur.size; omega) | (simp only [Array.size_setIfInBounds]; show k * 8 + 7 + 1 ≤ cur.size; omega)) (by kernel_rfl) rfl rfl ?_; intro w3 k3 hu3 hs3; replace k0 := hu3.heap k0 HG.out; clear c0 f0; have c0 := cells_of k0; (try simp only [wrC, instC, nodeC, patC, zzT, zzO, zzS] at c0); have f0 := frees_of k0; have x3 := cells_of k3; have y3 := frees_of k3))
    first | go_end0 | go_ret
    have hu := hu2.then hu3 (fun _ _ h => h)
    exact ⟨rfl, _, HW.out.grow (st2 := { st with code := st.code.set k { st.code.getD k .zero with x := (k : Int) + 1, y := (out : Int) } }) k0 (by rw [List.length_set]; exact own_put HW.out.own rfl hk k1 k3) (hu.mono (fun j _ (e : j = g) => .inr (by rw [e]; rfl))) (fun _ h => .inl h)⟩
  · go_enter Try.func83, Try.ntmps83
    go_wp2_with (first
      | ((with_reducible refine stopSt 3 _ _ rfl ?_); unfold Stop; refine wpList_store_blk rfl 3 _ _ rfl g (k * 8 + 6) rfl (.int .i64 ((k : Int) + 1)) rfl cur (Array.setIfInBounds (cur) (k * 8 + 6) (.int .i64 ((k : Int) + 1))) _ k1 (by first | (show k * 8 + 6 + 1 ≤ cur.size; omega) | (simp only [Array.size_setIfInBounds]; show k * 8 + 6 + 1 ≤ cur.size; omega)) (by kernel_rfl) rfl rfl ?_; intro w2 k2 hu2 hs2; replace k0 := hu2.heap k0 HG.out; clear c0 f0; have c0 := cells_of k0; (try simp only [wrC, instC, nodeC, patC, zzT, zzO, zzS] at c0); have f0 := frees_of k0; have x2 := cells_of k2; have y2 := frees_of k2)
      | ((with_reducible refine stopSt 3 _ _ rfl ?_); unfold Stop; refine wpList_store_blk rfl 3 _ _ rfl g (k * 8 + 7) rfl (.int .i64 (out : Nat)) rfl (Array.setIfInBounds cur (k * 8 + 6) (.int .i64 ((k : Int) + 1))) (Array.setIfInBounds (Array.setIfInBounds cur (k * 8 + 6) (.int .i64 ((k : Int) + 1))) (k * 8 + 7) (.int .i64 (out : Nat))) _ k2 (by first | (show k * 8 + 7 + 1 ≤ cur.size; omega) | (simp only [Array.size_setIfInBounds]; show k * 8 + 7 + 1 ≤ cur.size; omega)) (by kernel_rfl) rfl rfl ?_; intro w3 k3 hu3 hs3; replace k0 := hu3.heap k0 HG.out; clear c0 f0; have c0 := cells_of k0; (try simp only [wrC, instC, nodeC, patC, zzT, zzO, zzS] at c0); have f0 := frees_of k0; have x3 := cells_of k3; have y3 := frees_of k3)
      | ((with_reducible refine stopSt 3 _ _ rfl ?_); unfold Stop; refine wpList_store_blk rfl 3 _ _ rfl g (k * 8 + 6) rfl (.int .i64 (out : Nat)) rfl (Array.setIfInBounds (Array.setIfInBounds cur (k * 8 + 6) (.int .i64 ((k : Int) + 1))) (k * 8 + 7) (.int .i64 (out : Nat))) (Array.setIfInBounds (Array.setIfInBounds (Array.setIfInBounds cur (k * 8 + 6) (.int .i64 ((k : Int) + 1))) (k * 8 + 7) (.int .i64 (out : Nat))) (k * 8 + 6) (.int .i64 (out : Nat))) _ k3 (by first | (show k * 8 + 6 + 1 ≤ cur.size; omega) | (simp only [Array.size_setIfInBounds]; show k * 8 + 6 + 1 ≤ cur.size; omega)) (by kernel_rfl) rfl rfl ?_; intro w4 k4 hu4 hs4; replace k0 := hu4.heap k0 HG.out; clear c0 f0; have c0 := cells_of k0; (try simp only [wrC, instC, nodeC, patC, zzT, zzO, zzS] at c0); have f0 := frees_of k0; have x4 := cells_of k4; have y4 := frees_of k4)
      | ((with_reducible refine stopSt 3 _ _ rfl ?_); unfold Stop; refine wpList_store_blk rfl 3 _ _ rfl g (k * 8 + 7) rfl (.int .i64 ((k : Int) + 1)) rfl (Array.setIfInBounds (Array.setIfInBounds (Array.setIfInBounds cur (k * 8 + 6) (.int .i64 ((k : Int) + 1))) (k * 8 + 7) (.int .i64 (out : Nat))) (k * 8 + 6) (.int .i64 (out : Nat))) (Array.setIfInBounds (Array.setIfInBounds (Array.setIfInBounds (Array.setIfInBounds cur (k * 8 + 6) (.int .i64 ((k : Int) + 1))) (k * 8 + 7) (.int .i64 (out : Nat))) (k * 8 + 6) (.int .i64 (out : Nat))) (k * 8 + 7) (.int .i64 ((k : Int) + 1))) _ k4 (by first | (show k * 8 + 7 + 1 ≤ cur.size; omega) | (simp only [Array.size_setIfInBounds]; show k * 8 + 7 + 1 ≤ cur.size; omega)) (by kernel_rfl) rfl rfl ?_; intro w5 k5 hu5 hs5; replace k0 := hu5.heap k0 HG.out; clear c0 f0; have c0 := cells_of k0; (try simp only [wrC, instC, nodeC, patC, zzT, zzO, zzS] at c0); have f0 := frees_of k0; have x5 := cells_of k5; have y5 := frees_of k5))
    first | go_end0 | go_ret
    have hu := ((hu2.then hu3 (fun _ _ h => h)).then hu4 (fun _ _ h => h)).then hu5 (fun _ _ h => h)
    rw [put_again _ _ _ (by omega)] at k5
    exact ⟨rfl, _, HW.out.grow (st2 := { st with code := st.code.set k { st.code.getD k .zero with x := (out : Int), y := (k : Int) + 1 } }) k0 (by rw [List.length_set]; exact own_put HW.out.own rfl hk k1 k5) (hu.mono (fun j _ (e : j = g) => .inr (by rw [e]; rfl))) (fun _ h => .inl h)⟩
end Go.Proofs.Ytigbfgmgdfnhcaa
namespace Go.Proofs.Ytigbfgmgdfnhcaa
open Go.RowKit
structure WOk (st : WrD) : Prop where
  len : st.code.length ≤ 2001
  rl : st.long = false → st.r ≤ st.code.length
  r1 : st.r ≤ st.code.length + 1
structure WStp (st st2 : WrD) : Prop where
  ok : WOk st2
  grow : st.code.length ≤ st2.code.length
theorem WStp.refl {st : WrD} (h : WOk st) : WStp st st := ⟨h, Nat.le_refl _⟩
theorem WStp.trans {a b c : WrD} (h : WStp a b) (k : WStp b c) : WStp a c := ⟨k.ok, Nat.le_trans h.grow k.grow⟩
theorem WStp.lay {st : WrD} (h : WOk st) (i : InstD) : WStp st (st.lay i).2 ∧ (st.lay i).1 < (st.lay i).2.code.length ∧ (st.lay i).2.r = st.r := by
  have h1 := h.len
  have h3 := h.r1
  unfold WrD.lay
  split
  · exact ⟨⟨⟨h.len, (fun e => by cases e), h.r1⟩, Nat.le_refl _⟩, by show 0 < st.code.length; omega, rfl⟩
  · refine ⟨⟨⟨by simp; omega, fun e => ?_, by simp; omega⟩, by simp⟩, by simp, rfl⟩
    have h2 := h.rl e
    simp
    omega
theorem WStp.to {st : WrD} (h : WOk st) (k out : Nat) (lz : Bool) : WStp st (st.to k out lz) ∧ (st.to k out lz).code.length = st.code.length := by
  have e : (st.to k out lz).code.length = st.code.length := by unfold WrD.to WrD.put; split <;> simp
  have e2 : (st.to k out lz).r = st.r := by unfold WrD.to WrD.put; split <;> rfl
  have e3 : (st.to k out lz).long = st.long := by unfold WrD.to WrD.put; split <;> rfl
  exact ⟨⟨⟨by rw [e]; exact h.len, fun hh => by rw [e, e2]; exact h.rl (by rw [← e3]; exact hh), by rw [e, e2]; exact h.r1⟩, by rw [e]; exact Nat.le_refl _⟩, e⟩
def RecS (rec : Nat → WrD → Option WrD) : Prop := ∀ (k : Nat) (st st2 : WrD), WOk st → rec k st = some st2 → WStp st st2
/-- The writer when a round begins its kid. -/
def WrD.begun (st : WrD) : WrD := ({ (st.lay { op := 4 }).2 with r := (st.lay { op := 4 }).2.r + 1 }.lay { op := 12, x := ((st.lay { op := 4 }).2.r : Int) }).2
theorem mid_ok {st : WrD} (h : WOk st) (hl : st.long = false) : WOk { (st.lay { op := 4 }).2 with r := (st.lay { op := 4 }).2.r + 1 } := by
  have h1 := h.len
  have h2 := h.rl hl
  unfold WrD.lay
  split
  · exact ⟨h.len, (fun e => by cases e), by show st.r + 1 ≤ st.code.length + 1; omega⟩
  · exact ⟨by simp; omega, fun _ => by simp; omega, by simp; omega⟩
theorem begun_ok {st : WrD} (h : WOk st) (hl : st.long = false) : WStp st st.begun := by
  have g1 := (WStp.lay h { op := 4 }).1
  have g2 := mid_ok h hl
  have g3 := (WStp.lay g2 { op := 12, x := ((st.lay { op := 4 }).2.r : Int) }).1
  exact ⟨g3.ok, Nat.le_trans g1.grow g3.grow⟩
theorem WStp.round {rec : Nat → WrD → Option WrD} (hr : RecS rec) {st st2 : WrD} {kid k : Nat} (h : WOk st) (hl : st.long = false) (hq : st.round rec kid = some (k, st2)) : WStp st st2 ∧ k < st2.code.length := by
  unfold WrD.round at hq
  split at hq
  · cases hq
  · rename_i s hs
    have e := Option.some.inj hq
    rw [Prod.mk.injEq] at e
    have g1 := WStp.lay h { op := 4 }
    have g2 := begun_ok h hl
    have g3 := hr kid _ s g2.ok hs
    have g4 := WStp.lay g3.ok { op := 13, x := ((st.lay { op := 4 }).2.r : Int) }
    rw [e.2] at g4
    refine ⟨g2.trans (g3.trans g4.1), ?_⟩
    rw [← e.1]
    have h5 := (WStp.lay (mid_ok h hl) { op := 12, x := ((st.lay { op := 4 }).2.r : Int) }).1.grow
    exact Nat.lt_of_lt_of_le g1.2.1 (Nat.le_trans h5 (Nat.le_trans g3.grow g4.1.grow))
theorem WStp.manyA {rec : Nat → WrD → Option WrD} (hr : RecS rec) {kid : Nat} : ∀ (n : Nat) (st st2 : WrD), WOk st → manyA rec kid n st = some st2 → WStp st st2
  | 0, st, st2, h, hq => by unfold Go.Proofs.Ytigbfgmgdfnhcaa.manyA at hq; rw [← Option.some.inj hq]; exact WStp.refl h
  | n + 1, st, st2, h, hq => by
    unfold Go.Proofs.Ytigbfgmgdfnhcaa.manyA at hq
    split at hq
    · rw [← Option.some.inj hq]; exact WStp.refl h
    · split at hq
      · cases hq
      · rename_i s hs
        exact (hr kid st s h hs).trans (WStp.manyA hr n s st2 (hr kid st s h hs).ok hq)
/-- Places that are there. -/
def Ins (l : List Nat) (st : WrD) : Prop := ∀ k, k ∈ l → k < st.code.length
theorem Ins.up {l : List Nat} {a b : WrD} (h : Ins l a) (hg : a.code.length ≤ b.code.length) : Ins l b := fun k hk => Nat.lt_of_lt_of_le (h k hk) hg
theorem WStp.manyB {rec : Nat → WrD → Option WrD} (hr : RecS rec) {kid : Nat} : ∀ (n : Nat) (st st2 : WrD) (l l2 : List Nat), WOk st → Ins l st → manyB rec kid n st l = some (st2, l2) → WStp st st2 ∧ Ins l2 st2 ∧ l2.length ≤ l.length + n
  | 0, st, st2, l, l2, h, hl, hq => by
    unfold Go.Proofs.Ytigbfgmgdfnhcaa.manyB at hq
    have e := Option.some.inj hq
    rw [Prod.mk.injEq] at e
    rw [← e.1, ← e.2]
    exact ⟨WStp.refl h, hl, Nat.le_refl _⟩
  | n + 1, st, st2, l, l2, h, hl, hq => by
    unfold Go.Proofs.Ytigbfgmgdfnhcaa.manyB at hq
    split at hq
    · have e := Option.some.inj hq
      rw [Prod.mk.injEq] at e
      rw [← e.1, ← e.2]
      exact ⟨WStp.refl h, hl, by omega⟩
    · rename_i hlg
      split at hq
      · cases hq
      · rename_i k s hs
        obtain ⟨g1, g2⟩ := WStp.round hr h (by cases e : st.long; rfl; exact absurd e hlg) hs
        obtain ⟨r1, r2, r3⟩ := WStp.manyB hr n s st2 (l ++ [k]) l2 g1.ok (fun j hj => by
          rw [List.mem_append, List.mem_singleton] at hj
          rcases hj with hj | hj
          · exact Nat.lt_of_lt_of_le (hl j hj) g1.grow
          · rw [hj]; exact g2) hq
        exact ⟨g1.trans r1, r2, by simp at r3; omega⟩
theorem waysTo_ok (lz : Bool) : ∀ (l : List Nat) (st : WrD), WOk st → WStp st (waysTo lz st l) ∧ (waysTo lz st l).code.length = st.code.length
  | [], st, h => ⟨WStp.refl h, rfl⟩
  | k :: l, st, h => by
    have g1 := WStp.to h k st.code.length lz
    have g2 := waysTo_ok lz l _ g1.1.ok
    exact ⟨g1.1.trans g2.1, g2.2.trans g1.2⟩
theorem WStp.many {rec : Nat → WrD → Option WrD} (hr : RecS rec) {st st2 : WrD} {n : NodeD} (h : WOk st) (hq : st.many rec n = some st2) : WStp st st2 := by
  unfold WrD.many at hq
  split at hq
  · cases hq
  · rename_i s hs
    have g1 := WStp.manyA hr _ _ _ h hs
    split at hq
    · rw [← Option.some.inj hq]; exact g1
    · rename_i hlg
      have hlf : s.long = false := by cases e : s.long; rfl; exact absurd e hlg
      split at hq
      · split at hq
        · cases hq
        · rename_i k s2 hr2
          obtain ⟨g2, _⟩ := WStp.round hr g1.ok hlf hr2
          have g3 := WStp.lay g2.ok { op := 5, x := (k : Int) }
          have g4 := WStp.to g3.1.ok k (s2.lay { op := 5, x := (k : Int) }).2.code.length n.lzy
          rw [← Option.some.inj hq]
          exact g1.trans (g2.trans (g3.1.trans g4.1))
      · split at hq
        · cases hq
        · rename_i s2 l hb
          obtain ⟨g2, _, _⟩ := WStp.manyB hr _ _ _ _ _ g1.ok (fun k hk => by simp at hk) hb
          rw [← Option.some.inj hq]
          exact g1.trans (g2.trans (waysTo_ok _ l s2 g2.ok).1)
theorem outs_ok : ∀ (l : List Nat) (st : WrD), WOk st → WStp st (st.outs l) ∧ (st.outs l).code.length = st.code.length
  | [], st, h => ⟨WStp.refl h, rfl⟩
  | k :: l, st, h => by
    have g1 : WOk { st with code := st.code.set k { st.code.getD k .zero with x := (st.code.length : Int) } } := ⟨by simpa using h.len, fun e => by simpa using h.rl e, by simpa using h.r1⟩
    obtain ⟨g2, g3⟩ := outs_ok l _ g1
    have e : (st.outs (k :: l)) = ({ st with code := st.code.set k { st.code.getD k .zero with x := (st.code.length : Int) } } : WrD).outs l := rfl
    rw [e]
    have g4 : (({ st with code := st.code.set k { st.code.getD k .zero with x := (st.code.length : Int) } } : WrD).outs l).code.length = st.code.length := g3.trans (by simp)
    exact ⟨⟨g2.ok, Nat.le_of_eq g4.symm⟩, g4⟩
theorem WStp.altL {rec : Nat → WrD → Option WrD} (hr : RecS rec) : ∀ (ks : List Nat) (st st2 : WrD) (l l2 : List Nat), WOk st → Ins l st → altL rec ks st l = some (st2, l2) → WStp st st2 ∧ Ins l2 st2 ∧ l2.length ≤ l.length + ks.length
  | [], st, st2, l, l2, h, hl, hq => by
    unfold Go.Proofs.Ytigbfgmgdfnhcaa.altL at hq
    have e := Option.some.inj hq
    rw [Prod.mk.injEq] at e
    rw [← e.1, ← e.2]
    exact ⟨WStp.refl h, hl, Nat.le_refl _⟩
  | [k], st, st2, l, l2, h, hl, hq => by
    unfold Go.Proofs.Ytigbfgmgdfnhcaa.altL at hq
    split at hq
    · have e := Option.some.inj hq
      rw [Prod.mk.injEq] at e
      rw [← e.1, ← e.2]
      exact ⟨WStp.refl h, hl, by simp⟩
    · split at hq
      · cases hq
      · rename_i s hs
        have e := Option.some.inj hq
        rw [Prod.mk.injEq] at e
        have g1 := hr k st s h hs
        rw [← e.1, ← e.2]
        exact ⟨g1, hl.up g1.grow, by simp⟩
  | k :: k2 :: ks, st, st2, l, l2, h, hl, hq => by
    unfold Go.Proofs.Ytigbfgmgdfnhcaa.altL at hq
    split at hq
    · have e := Option.some.inj hq
      rw [Prod.mk.injEq] at e
      rw [← e.1, ← e.2]
      exact ⟨WStp.refl h, hl, by omega⟩
    · split at hq
      · cases hq
      · rename_i s hs
        have g1 := WStp.lay h { op := 4 }
        have g2 := hr k _ s g1.1.ok hs
        have g3 := WStp.lay g2.ok { op := 5 }
        have g4 := WStp.to g3.1.ok (st.lay { op := 4 }).1 (s.lay { op := 5 }).2.code.length false
        have hg : st.code.length ≤ ((s.lay { op := 5 }).2.to (st.lay { op := 4 }).1 (s.lay { op := 5 }).2.code.length false).code.length := (g1.1.trans (g2.trans (g3.1.trans g4.1))).grow
        obtain ⟨r1, r2, r3⟩ := WStp.altL hr (k2 :: ks) _ st2 _ l2 g4.1.ok (fun j hj => by
          rw [List.mem_append, List.mem_singleton] at hj
          rcases hj with hj | hj
          · exact Nat.lt_of_lt_of_le (hl j hj) hg
          · rw [hj, g4.2]; exact g3.2.1) hq
        exact ⟨(g1.1.trans (g2.trans (g3.1.trans g4.1))).trans r1, r2, by simp at r3 ⊢; omega⟩
theorem WStp.catL {rec : Nat → WrD → Option WrD} (hr : RecS rec) : ∀ (ks : List Nat) (st st2 : WrD), WOk st → catL rec ks st = some st2 → WStp st st2
  | [], st, st2, h, hq => by unfold Go.Proofs.Ytigbfgmgdfnhcaa.catL at hq; rw [← Option.some.inj hq]; exact WStp.refl h
  | k :: ks, st, st2, h, hq => by
    unfold Go.Proofs.Ytigbfgmgdfnhcaa.catL at hq
    split at hq
    · cases hq
    · rename_i s hs
      exact (hr k st s h hs).trans (WStp.catL hr ks s st2 (hr k st s h hs).ok hq)
def Gd (st : WrD) (q : Option WrD) : Prop := ∀ s2, q = some s2 → WStp st s2
theorem gd_of {st s : WrD} (h : WStp st s) : Gd st (some s) := fun s2 e => by rw [← Option.some.inj e]; exact h
theorem WStp.node {rec : Nat → WrD → Option WrD} (hr : RecS rec) {st st2 : WrD} {n : NodeD} (h : WOk st) (hq : st.node rec n = some st2) : WStp st st2 := by
  have lay := fun i => gd_of (WStp.lay h i).1
  have alt : Gd st (st.alt rec n.kids) := by
    intro s2 hq
    unfold WrD.alt at hq
    split at hq
    · cases hq
    · rename_i s l hs
      obtain ⟨g1, _, _⟩ := WStp.altL hr _ _ _ _ _ h (fun k hk => by simp at hk) hs
      rw [← Option.some.inj hq]
      exact g1.trans (outs_ok l s g1.ok).1
  have grp : Gd st (match rec (n.kids.headD 0) (st.lay { op := 6, x := 2 * n.n }).2 with
    | none => none
    | some s => some (s.lay { op := 6, x := 2 * n.n + 1 }).2) := by
    intro s2 hq
    split at hq
    · cases hq
    · rename_i s hs
      have g1 := (WStp.lay h { op := 6, x := 2 * n.n }).1
      have g2 := hr _ _ s g1.ok hs
      rw [← Option.some.inj hq]
      exact g1.trans (g2.trans (WStp.lay g2.ok _).1)
  have all : Gd st (st.node rec n) := by
    unfold WrD.node
    refine ite_ind (Gd st) (gd_of (WStp.refl h)) ?_
    refine ite_ind (Gd st) (lay _) ?_
    refine ite_ind (Gd st) (lay _) ?_
    refine ite_ind (Gd st) (lay _) ?_
    refine ite_ind (Gd st) (fun s2 e => WStp.catL hr _ _ _ h e) ?_
    refine ite_ind (Gd st) alt ?_
    refine ite_ind (Gd st) (fun s2 e => WStp.many hr h e) ?_
    refine ite_ind (Gd st) grp ?_
    refine ite_ind (Gd st) (lay _) ?_
    refine ite_ind (Gd st) (lay _) ?_
    refine ite_ind (Gd st) (lay _) ?_
    exact ite_ind (Gd st) (lay _) (gd_of (WStp.refl h))
  exact all st2 hq
theorem nodeF_ok (ns : List NodeD) : ∀ f, RecS (nodeF ns f)
  | 0 => fun k st st2 _ h => by unfold nodeF at h; cases h
  | f + 1 => fun k st st2 h hq => by unfold nodeF at hq; exact WStp.node (nodeF_ok ns f) h hq
end Go.Proofs.Ytigbfgmgdfnhcaa
