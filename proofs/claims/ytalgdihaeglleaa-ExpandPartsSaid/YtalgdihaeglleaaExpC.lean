/- Contract of the end of a line; what is said of letters. -/
import Derived.Test.YtalgdihaeglleaaExpB
import Derived.Test.YtalgdihaeglleaaSeq
import Derived.Laws.IdiomStrings
import Derived.Laws.BytesArg
namespace Go.Proofs.Ytalgdihaeglleaa
open Go.RowKit

theorem ownsRow_cell {w : World} {base : Nat} {e : TypeId} {v : Value} {n : Nat} {xs : List Value} (h : w.ownsRow base e 1 v n xs) {i c m : Nat} {a : Addr} (hv : v = .slice (some a) m c) (hi : i < n) : w.cell? (a.add i) = xs[i]? := by
  obtain ⟨h1, h2⟩ := h
  rcases h2 with ⟨rfl, _⟩ | ⟨g, cap, cur, rfl, _, hb, hnc, _, hsz, htk⟩
  · cases hv
  · simp only [Value.slice.injEq, Option.some.injEq] at hv
    obtain ⟨rfl, _, _⟩ := hv
    have hadd : (⟨g, 0, none⟩ : Addr).add i = ⟨g, i, none⟩ := by unfold Addr.add; split <;> simp_all
    rw [hadd]
    simp only [World.cell?, hb]
    rw [← htk, List.getElem?_take]
    simp [hi]

theorem conv_own {w : World} {base : Nat} {v : Value} {n : Nat} {l : List UInt8} (h : w.ownsRow base 5 1 v n (bytesV l)) :
    (convert 37 9 v).run Try.prog w = .ok (.string ⟨l.toArray⟩) w := by
  have hl : l.length = n := by have := h.1; simpa [bytesV] using this
  have h0 := h
  rcases h.2 with ⟨rfl, rfl⟩ | ⟨g, cap, cur, rfl, _, hb, hnc, _, hsz, htk⟩
  · obtain rfl : l = [] := List.length_eq_zero_iff.1 hl
    exact run_convert_bytes_nil (w := w) 37 5 rfl rfl 0 0 9 rfl
  · subst hl
    refine run_convert_bytes_back w 37 9 5 _ cap l rfl rfl rfl (fun j hj => ?_)
    rw [ownsRow_cell h0 rfl hj]
    simp [bytesV, byteV, hj]

theorem exec_conv {P : Program} {a : Act} {o : Oper} {w : World} {s d : TypeId} {x : Operand} {v u : Value} (ho : o.op = .convert s d x) (hv : a.eval x = v) (h : (convert s d v).run P w = .ok u w) : (execOp a.eval o).run P w = .ok (.value u) w := by
  unfold execOp
  simp only [ho, hv, Sem.run_bind, h, Result.andThen_ok, Sem.run_pure]

theorem info_str : (Try.prog.info? 9).map (fun i => (i.zero, i.size, i.bytes)) = some (some (.string ⟨#[]⟩), 1, 16) := by kernel_rfl

def EndPost (w : World) (b : Nat) (dv : Value) (y : Wr) (e : Ending) (w' : World) : Prop :=
  e = .returned (.tuple #[]) ∧ ∃ dv', WrAt w' b dv' (.slice none 0 0) y ∧ Upd (fun k => k = b ∨ dv.ownBlock = some k) w w' ∧ (∀ g, dv'.ownBlock = some g → dv.ownBlock = some g ∨ w.heap.size ≤ g)

theorem end_close {w w1 : World} {b : Nat} {dv lv : Value} {x : Wr} {g cap : Nat} (hW : WrAt w b dv lv x)
    (hown : w1.ownsRow 0 9 1 (.slice (some ⟨g, 0, none⟩) (x.done.length + 1) cap) (x.done.length + 1) (strsV x.done ++ [.string ⟨x.line.toArray⟩]))
    (hU : Upd (fun k => dv.ownBlock = some k) w w1) (hat : dv.ownBlock = some g ∨ g = w.heap.size + 1) :
    WrAt ((w1.setCell ⟨b, 0, none⟩ (.slice (some ⟨g, 0, none⟩) (x.done.length + 1) cap)).setCell ⟨b, 1, none⟩ (.slice none 0 0)) b (.slice (some ⟨g, 0, none⟩) (x.done.length + 1) cap) (.slice none 0 0) x.cut := by
  obtain ⟨hb, hd, hl, nd, nl, nn⟩ := hW
  have hblt := heap_lt hb
  have hgb : g ≠ b := by
    rcases hat with h | h
    · intro e; exact nd (by rw [h, e])
    · omega
  refine ⟨?_, ?_, ?_, ?_, ?_, ?_⟩
  · rw [heap_set (heap_set (hU.heap hb nd) 0 _) 1]; rfl
  · refine ownsRow_set (ownsRow_set ?_ (by simp [Value.ownBlock]; exact hgb) _) (by simp [Value.ownBlock]; exact hgb) _
    have e : x.cut.done.length = x.done.length + 1 := by simp [Wr.cut]
    have e2 : strsV x.cut.done = strsV x.done ++ [.string ⟨x.line.toArray⟩] := by simp [Wr.cut, strsV, strV]
    rw [e, e2]
    exact hown
  · exact World.ownsRow_nil _ _ _ _
  · simp [Value.ownBlock]; exact hgb
  · simp [Value.ownBlock]
  · intro k _ e; simp [Value.ownBlock] at e

set_option maxRecDepth 100000 in
set_option maxHeartbeats 4000000 in
theorem end_any (b : Nat) (dv lv : Value) (x : Wr) (w : World) (h : WrAt w b dv lv x) (hlen : x.done.length ≤ 1000000000) :
    Calls Try.prog 15 #[.pointer (some ⟨b, 0, none⟩)] w (EndPost w b dv x.cut) := by
  obtain ⟨i0, hi, hz0, hz1, hz2⟩ := info_parts info_str
  have HW := Lib.hid h
  obtain ⟨hb, hd, hl, nd, nl, nn⟩ := h
  have Hb := Lib.hid hb
  have Hd := Lib.hid hd
  have Hl := Lib.hid hl
  have Nl := Lib.hid nl
  have Nd := Lib.hid nd
  have Nn := Lib.hid nn
  have d0 := cell_of hb 0 (v := dv) rfl
  have d1 := cell_of hb 1 (v := lv) rfl
  have f0 := free_of hb 0
  have hblt := heap_lt hb
  clear hb hd hl nd nl nn
  go_enter Try.func15, Try.ntmps15
  go_wp2
  refine wp_region_seq (fun v => Upd (fun k => dv.ownBlock = some k) w v) (fun i => i != 14) [(0, true), (1, true), (2, true), (3, true), (4, true), (5, true), (6, true), (7, true), (8, true), (9, true), (10, false), (11, false), (12, true), (13, true), (14, false)] (by exact rfl) (by kernel_rfl) (by intro c a d v w h; cases d <;> exact h) ?_
  have hS : Upd (fun k => dv.ownBlock = some k) w w.drew := (Upd.refl _ _).drew
  (apply seq_val (o := { dst := some 2, op := Op.move (Operand.tmp 0), type := 39, pos := "expand.go:49", after := #[], guard := none }) rfl (by rfl); (focus (intro w' hS'; have s0 := hS'.cell d0 Nd.out; have s1 := hS'.cell d1 Nd.out; have s2 := ownsRow_upd Hl.out hS' (fun g hg e => Nn.out g e hg); go_simp; (first | done | exact rfl | (rw [if_pos (by omega)]; done)))); (focus exact hS))
  (try simp only [Act.put, List.setIfInBounds_toArray, List.set_cons_zero, List.set_cons_succ])
  (apply seq_val (o := { dst := some 3, op := Op.move (Operand.tmp 0), type := 39, pos := "expand.go:49", after := #[], guard := none }) rfl (by rfl); (focus (intro w' hS'; have s0 := hS'.cell d0 Nd.out; have s1 := hS'.cell d1 Nd.out; have s2 := ownsRow_upd Hl.out hS' (fun g hg e => Nn.out g e hg); go_simp; (first | done | exact rfl | (rw [if_pos (by omega)]; done)))); (focus exact hS))
  (try simp only [Act.put, List.setIfInBounds_toArray, List.set_cons_zero, List.set_cons_succ])
  (apply seq_val (o := { dst := some 4, op := Op.nilCheck (Operand.tmp 3), type := 0, pos := "expand.go:49", after := #[{ on := 1, ground := Ground.data }], guard := none }) rfl (by rfl); (focus (intro w' hS'; have s0 := hS'.cell d0 Nd.out; have s1 := hS'.cell d1 Nd.out; have s2 := ownsRow_upd Hl.out hS' (fun g hg e => Nn.out g e hg); go_simp; (first | done | exact rfl | (rw [if_pos (by omega)]; done)))); (focus exact hS))
  (try simp only [Act.put, List.setIfInBounds_toArray, List.set_cons_zero, List.set_cons_succ])
  (apply seq_val (o := { dst := some 5, op := Op.fieldAddr 42 (Operand.tmp 4) 0, type := 0, pos := "expand.go:49", after := #[{ on := 2, ground := Ground.data }], guard := none }) rfl (by rfl); (focus (intro w' hS'; have s0 := hS'.cell d0 Nd.out; have s1 := hS'.cell d1 Nd.out; have s2 := ownsRow_upd Hl.out hS' (fun g hg e => Nn.out g e hg); go_simp; (first | done | exact rfl | (rw [if_pos (by omega)]; done)))); (focus exact hS))
  (try simp only [Act.put, List.setIfInBounds_toArray, List.set_cons_zero, List.set_cons_succ])
  (apply seq_val (o := { dst := some 6, op := Op.load 26 (Operand.tmp 5), type := 26, pos := "expand.go:49", after := #[{ on := 3, ground := Ground.data }], guard := none }) rfl (by rfl); (focus (intro w' hS'; have s0 := hS'.cell d0 Nd.out; have s1 := hS'.cell d1 Nd.out; have s2 := ownsRow_upd Hl.out hS' (fun g hg e => Nn.out g e hg); go_simp; (first | done | exact rfl | (rw [if_pos (by omega)]; done)))); (focus exact hS))
  (try simp only [Act.put, List.setIfInBounds_toArray, List.set_cons_zero, List.set_cons_succ])
  (apply seq_val (o := { dst := some 7, op := Op.move (Operand.tmp 0), type := 39, pos := "expand.go:49", after := #[], guard := none }) rfl (by rfl); (focus (intro w' hS'; have s0 := hS'.cell d0 Nd.out; have s1 := hS'.cell d1 Nd.out; have s2 := ownsRow_upd Hl.out hS' (fun g hg e => Nn.out g e hg); go_simp; (first | done | exact rfl | (rw [if_pos (by omega)]; done)))); (focus exact hS))
  (try simp only [Act.put, List.setIfInBounds_toArray, List.set_cons_zero, List.set_cons_succ])
  (apply seq_val (o := { dst := some 8, op := Op.nilCheck (Operand.tmp 7), type := 0, pos := "expand.go:49", after := #[{ on := 5, ground := Ground.data }], guard := none }) rfl (by rfl); (focus (intro w' hS'; have s0 := hS'.cell d0 Nd.out; have s1 := hS'.cell d1 Nd.out; have s2 := ownsRow_upd Hl.out hS' (fun g hg e => Nn.out g e hg); go_simp; (first | done | exact rfl | (rw [if_pos (by omega)]; done)))); (focus exact hS))
  (try simp only [Act.put, List.setIfInBounds_toArray, List.set_cons_zero, List.set_cons_succ])
  (apply seq_val (o := { dst := some 9, op := Op.fieldAddr 42 (Operand.tmp 8) 1, type := 0, pos := "expand.go:49", after := #[{ on := 6, ground := Ground.data }], guard := none }) rfl (by rfl); (focus (intro w' hS'; have s0 := hS'.cell d0 Nd.out; have s1 := hS'.cell d1 Nd.out; have s2 := ownsRow_upd Hl.out hS' (fun g hg e => Nn.out g e hg); go_simp; (first | done | exact rfl | (rw [if_pos (by omega)]; done)))); (focus exact hS))
  (try simp only [Act.put, List.setIfInBounds_toArray, List.set_cons_zero, List.set_cons_succ])
  (apply seq_val (o := { dst := some 10, op := Op.load 37 (Operand.tmp 9), type := 37, pos := "expand.go:49", after := #[{ on := 7, ground := Ground.data }], guard := none }) rfl (by rfl); (focus (intro w' hS'; have s0 := hS'.cell d0 Nd.out; have s1 := hS'.cell d1 Nd.out; have s2 := ownsRow_upd Hl.out hS' (fun g hg e => Nn.out g e hg); go_simp; (first | done | exact rfl | (rw [if_pos (by omega)]; done)))); (focus exact hS))
  (try simp only [Act.put, List.setIfInBounds_toArray, List.set_cons_zero, List.set_cons_succ])
  (apply seq_val (o := { dst := some 11, op := Op.convert 37 9 (Operand.tmp 10), type := 9, pos := "expand.go:49", after := #[{ on := 8, ground := Ground.data }], guard := none }) rfl (by rfl); (focus (intro w' hS'; have s0 := hS'.cell d0 Nd.out; have s1 := hS'.cell d1 Nd.out; have s2 := ownsRow_upd Hl.out hS' (fun g hg e => Nn.out g e hg); exact exec_conv rfl rfl (conv_own s2))); (focus exact hS))
  (try simp only [Act.put, List.setIfInBounds_toArray, List.set_cons_zero, List.set_cons_succ])
  refine seq_loud (o := { dst := some 12, op := Op.buildSlice 26 1 #[(0, Operand.tmp 11)], type := 26, pos := "expand.go:49", after := #[{ on := 9, ground := Ground.data }], guard := none }) rfl (fun K hK => ?_)
  go_simp; have hS0 := hS; clear hS; have hS : Upd (fun k => dv.ownBlock = some k) w (w.alloc (Obj.cells #[Value.string { data := x.line.toArray }] 9)).drew := ((Upd.refl _ _).alloc _).drew; have hd2 := ownsRow_upd (F := fun _ => False) Hd.out ((Upd.refl _ _).alloc (Obj.cells #[Value.string { data := x.line.toArray }] 9)).drew (fun _ _ h => h); refine hK _ _ (fun _ => hS) ?_; clear hK K
  (try simp only [Act.put, List.setIfInBounds_toArray, List.set_cons_zero, List.set_cons_succ])
  refine seq_loud (o := { dst := some 13, op := Op.call { callee := Callee.builtin Builtin.append, args := #[Operand.tmp 6, Operand.tmp 12], argTypes := #[26, 26] }, type := 26, pos := "expand.go:49", after := #[{ on := 4, ground := Ground.data }, { on := 10, ground := Ground.data }], guard := none }) rfl (fun K hK => ?_)
  refine step_append_lies _ rfl _ _ 26 rfl 0 9 i0 (.string ⟨#[]⟩) 1 16 Try.underlying26 hi hz0 hz1 hz2 rfl (by decide) dv x.done.length (strsV x.done) rfl hd2 ⟨w.heap.size, 0, none⟩ 1 1 [.string ⟨x.line.toArray⟩] rfl rfl (cell_one_at _ _ rfl) (by simp [Value.oneCell']) (by omega) (by unfold maxLen; omega) (by omega) (Nat.zero_le _) _ rfl ?_; intro g cap w1 hown hgrow hat hlt1; have hS : Upd (fun k => dv.ownBlock = some k) w w1 := hS.grown hgrow (fun k _ e => e); refine hK _ _ (fun _ => hS) ?_; clear hK K
  (try simp only [Act.put, List.setIfInBounds_toArray, List.set_cons_zero, List.set_cons_succ])
  (apply seq_val (o := { dst := some 14, op := Op.nilCheck (Operand.tmp 2), type := 0, pos := "expand.go:49", after := #[{ on := 0, ground := Ground.data }, { on := 0, ground := Ground.phase }, { on := 1, ground := Ground.phase }, { on := 2, ground := Ground.phase }, { on := 3, ground := Ground.phase }, { on := 4, ground := Ground.phase }, { on := 5, ground := Ground.phase }, { on := 6, ground := Ground.phase }, { on := 7, ground := Ground.phase }, { on := 8, ground := Ground.phase }, { on := 9, ground := Ground.phase }, { on := 10, ground := Ground.phase }, { on := 11, ground := Ground.phase }], guard := none }) rfl (by rfl); (focus (intro w' hS'; have s0 := hS'.cell d0 Nd.out; have s1 := hS'.cell d1 Nd.out; have s2 := ownsRow_upd Hl.out hS' (fun g hg e => Nn.out g e hg); go_simp; (first | done | exact rfl | (rw [if_pos (by omega)]; done)))); (focus exact hS))
  (try simp only [Act.put, List.setIfInBounds_toArray, List.set_cons_zero, List.set_cons_succ])
  (apply seq_val (o := { dst := some 15, op := Op.fieldAddr 42 (Operand.tmp 14) 0, type := 0, pos := "expand.go:49", after := #[{ on := 12, ground := Ground.data }, { on := 0, ground := Ground.phase }, { on := 1, ground := Ground.phase }, { on := 2, ground := Ground.phase }, { on := 3, ground := Ground.phase }, { on := 4, ground := Ground.phase }, { on := 5, ground := Ground.phase }, { on := 6, ground := Ground.phase }, { on := 7, ground := Ground.phase }, { on := 8, ground := Ground.phase }, { on := 9, ground := Ground.phase }, { on := 10, ground := Ground.phase }, { on := 11, ground := Ground.phase }], guard := none }) rfl (by rfl); (focus (intro w' hS'; have s0 := hS'.cell d0 Nd.out; have s1 := hS'.cell d1 Nd.out; have s2 := ownsRow_upd Hl.out hS' (fun g hg e => Nn.out g e hg); go_simp; (first | done | exact rfl | (rw [if_pos (by omega)]; done)))); (focus exact hS))
  (try simp only [Act.put, List.setIfInBounds_toArray, List.set_cons_zero, List.set_cons_succ])
  refine seq_loud (o := { dst := none, op := Op.store 26 (Operand.tmp 15) (Operand.tmp 13), type := 0, pos := "expand.go:49", after := #[{ on := 13, ground := Ground.data }, { on := 11, ground := Ground.data }, { on := 11, ground := Ground.chain }, { on := 0, ground := Ground.phase }, { on := 1, ground := Ground.phase }, { on := 2, ground := Ground.phase }, { on := 3, ground := Ground.phase }, { on := 4, ground := Ground.phase }, { on := 5, ground := Ground.phase }, { on := 6, ground := Ground.phase }, { on := 7, ground := Ground.phase }, { on := 8, ground := Ground.phase }, { on := 9, ground := Ground.phase }, { on := 10, ground := Ground.phase }, { on := 11, ground := Ground.phase }], guard := none }) rfl (fun K hK => ?_)
  have e0 := hS.cell d0 Nd.out; have g0 := hS.heap Hb.out Nd.out; have g1 := free_of g0 0; have e1 := hS.cell d1 Nd.out; have g2 := free_of g0 1; have G0 := Lib.hid g0; clear g0; go_simp; refine hK _ _ (fun e => by cases e) ?_; clear hK K
  (try simp only [Act.put, List.setIfInBounds_toArray, List.set_cons_zero, List.set_cons_succ])
  refine seq_nil ?_
  go_wp2
  go_end0
  refine ⟨rfl, _, end_close HW.out hown (hS) (by simpa using hat), ((hS.mono (fun k _ h => .inr h)).setCell (fun _ => .inl rfl) _).setCell (fun _ => .inl rfl) _, fun k hk => ?_⟩
  simp only [Value.ownBlock, Option.some.injEq] at hk
  subst hk
  rcases hat with h | h
  · exact .inl h
  · right; simp at h; omega
end Go.Proofs.Ytalgdihaeglleaa
