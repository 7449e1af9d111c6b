/- Contract of Lines of the document's answer for expand. -/
import Derived.Test.YtalgdihaeglleaaExpS
namespace Go.Proofs.Ytalgdihaeglleaa
open Go.RowKit

theorem RfAt.upd {F : Nat → Prop} {w w' : World} {b : Nat} {dv : Value} {x : Wr} (h : RfAt w b dv x) (hu : Upd F w w') (hb : ¬ F b) (hd : ∀ g, dv.ownBlock = some g → ¬ F g) : RfAt w' b dv x :=
  ⟨hu.heap h.blk hb, ownsRow_upd h.hd hu hd, h.nd⟩
theorem RfAt.alloc {w : World} {b : Nat} {dv : Value} {x : Wr} (h : RfAt w b dv x) (o : Obj) : RfAt (w.alloc o) b dv x :=
  h.upd ((Upd.refl (fun _ => False) _).alloc o) (fun h => h) (fun _ _ h => h)

/-- The loop of the document's Lines. -/
structure RLinesRel (w : World) (cs : Array Value) (x : Wr) (dv : Value) (wr : World) : Prop where
  at_ : RfAt wr (w.heap.size + 1 + 1) dv x
  upd : Upd (fun _ => False) w wr
  dn : ∀ g, dv.ownBlock = some g → w.heap.size < g
  mt : wr.heap[w.heap.size]? = some (.cells cs 25 (0, 0))

theorem RLinesRel.step {w wr w2 : World} {cs : Array Value} {x y : Wr} {dv dv2 : Value} (h : RLinesRel w cs x dv wr) (ha : RfAt w2 (w.heap.size + 1 + 1) dv2 y)
    (hu : Upd (fun k => k = w.heap.size + 1 + 1 ∨ dv.ownBlock = some k) wr w2)
    (hd : ∀ g, dv2.ownBlock = some g → dv.ownBlock = some g ∨ wr.heap.size ≤ g) : RLinesRel w cs y dv2 w2 := by
  have hlt := heap_lt h.mt
  refine ⟨ha, h.upd.then hu (fun i hi hh => ?_), fun g hg => ?_, hu.heap h.mt (fun hh => ?_)⟩
  · rcases hh with rfl | hh
    · omega
    · have := h.dn i hh; omega
  · rcases hd g hg with hh | hh
    · exact h.dn g hh
    · omega
  · rcases hh with hh | hh
    · omega
    · have := h.dn _ hh; omega

/-- A line more. -/
theorem RfAt.cut_close {wr w1 : World} {b g cap : Nat} {dv : Value} {x : Wr} (h : RfAt wr b dv x) (o : Obj) (hown : w1.ownsRow 0 9 1 (.slice (some ⟨g, 0, none⟩) (x.done.length + 1 + 1) cap) (x.done.length + 1 + 1) (strsV (x.done ++ [x.line]) ++ [.string ⟨#[]⟩]))
    (hg : (wr.alloc o).grownBy w1 dv.ownBlock) (hat : dv.ownBlock = some g ∨ g = wr.heap.size + 1) :
    RfAt (w1.setCell ⟨b, 0, none⟩ (.slice (some ⟨g, 0, none⟩) (x.done.length + 1 + 1) cap)) b (.slice (some ⟨g, 0, none⟩) (x.done.length + 1 + 1) cap) x.cut ∧ Upd (fun k => k = b ∨ dv.ownBlock = some k) wr (w1.setCell ⟨b, 0, none⟩ (.slice (some ⟨g, 0, none⟩) (x.done.length + 1 + 1) cap)) := by
  have hblt := heap_lt h.blk
  have hgb : g ≠ b := by
    rcases hat with hh | hh
    · intro e; exact h.nd (by rw [hh, e])
    · omega
  have hu : Upd (fun k => dv.ownBlock = some k) wr w1 := ((Upd.refl _ _).alloc o).grown hg (fun k _ e => e)
  refine ⟨⟨?_, ?_, ?_⟩, (hu.mono (fun k _ h => .inr h)).setCell (fun _ => .inl rfl) _⟩
  · rw [heap_set (hu.heap h.blk h.nd) 0 _]; rfl
  · refine ownsRow_set ?_ (by simp [Value.ownBlock]; exact hgb) _
    have e : x.cut.done.length = x.done.length + 1 := by simp [Wr.cut]
    have e2 : strsV (x.cut.done ++ [x.cut.line]) = strsV (x.done ++ [x.line]) ++ [.string ⟨#[]⟩] := by simp [Wr.cut, strsV, strV]
    rw [e, e2]
    exact hown
  · simp [Value.ownBlock]; exact hgb

theorem RfAt.say2 {wr : World} {b : Nat} {dv : Value} {x y : Wr} (h : RfAt wr b dv x) (w2 : World) (hb : w2.heap[b]? = some (.cells #[dv, .int .u8 (nextC y.next), .int .u8 (allC y.all)] 48 (0, 0))) (hu : Upd (fun k => k = b) wr w2)
    (hd : y.done = x.done) (hl : y.line = x.line) : RfAt w2 b dv y :=
  ⟨hb, by rw [hd, hl]; exact ownsRow_upd h.hd hu (fun g hg e => h.nd (by rw [hg, e])), h.nd⟩

theorem exec_load_row {P : Program} {o : Oper} {a : Act} {w : World} (ty : TypeId) (x : Operand) (ho : o.op = .load ty x)
    (g : Nat) (hx : a.eval x = .pointer (some ⟨g, 0, none⟩)) (t : TypeId) (cs : Array Value) (fr : Nat × Nat) (d : TypeDesc) (hg : w.heap[g]? = some (.cells cs t fr))
    (hu : P.underlying ty = some d) (hd : (match d with | .struct _ | .array _ _ => true | _ => false) = true) (hi : (P.info? ty).map (·.size) = some cs.size) : (execOp a.eval o).run P w = .ok (.value (.agg cs)) w := by
  unfold execOp
  simp only [ho, hx, Instr.loadAt, Instr.sureAddr, Sem.run_bind, Sem.run_pure, Result.andThen_ok, run_loadVar_row w g t ty cs fr d hg hu hd hi]

set_option maxRecDepth 100000 in
set_option maxHeartbeats 4000000 in
theorem rlines_any (a : Option Addr) (cp : Nat) (ts : List Tm) (s : ByteArray) (cs : Array Value) (mb me : Nat → Int) (w : World) (ht : TmsAt w a ts) (hm : IsMatch cs mb me) (hs : s.size ≤ 1000) (hn : ts.length ≤ 1000) (hx : ∀ t ∈ ts, t.text.size ≤ 1000) :
    Calls Try.prog 12 #[tmsV a ts.length cp, .string s, .agg cs] w fun e w' => ∃ dv, e = .returned dv ∧ Below w.heap.size w w' ∧ w'.ownsRow w.heap.size 9 1 dv (expLines s mb me ts).length (strsV (expLines s mb me ts)) := by
  unfold tmsV
  obtain ⟨i0, hi, hz0, hz1, hz2⟩ := info_parts info_str
  go_enter Try.func12, Try.ntmps12
  go_wp2_with fail
  have hR0 : RLinesRel w cs Wr.zero (.slice (some ⟨w.heap.size + 1, 0, none⟩) 1 1) (((w.alloc (.cells cs 25)).alloc (Obj.cells #[Value.string { data := #[] }] 9)).alloc (Obj.cells #[Value.slice (some { block := w.heap.size + 1, off := 0 }) 1 1, Value.int IntKind.u8 0, Value.int IntKind.u8 0] 48)) := by
    have z1 : (w.alloc (.cells cs 25)).heap.size = w.heap.size + 1 := by simp
    have z2 : ((w.alloc (.cells cs 25)).alloc (Obj.cells #[Value.string { data := #[] }] 9)).heap.size = w.heap.size + 1 + 1 := by simp
    refine ⟨⟨?_, ?_, by simp [Value.ownBlock]⟩, (((Upd.refl _ _).alloc _).alloc _).alloc _, by simp [Value.ownBlock], ?_⟩
    · rw [← z2]; exact heap_alloc_new _ _
    · have h1 := own_one (w.alloc (.cells cs 25)) (.string ⟨#[]⟩) 9
      rw [z1] at h1
      exact h1.alloc _
    · rw [Below.heap_alloc _ _ _ (by rw [z2]; omega), Below.heap_alloc _ _ _ (by rw [z1]; omega)]; exact heap_alloc_new _ _
  generalize hWW : ((w.alloc (.cells cs 25)).alloc (Obj.cells #[Value.string { data := #[] }] 9)).alloc (Obj.cells #[Value.slice (some { block := w.heap.size + 1, off := 0 }) 1 1, Value.int IntKind.u8 0, Value.int IntKind.u8 0] 48) = W0 at *
  clear hWW
  go_loopw [8] (fun i wr => ∃ (k : Nat) (dv : Value), k ≤ ts.length ∧ i = .int .i64 k ∧ RLinesRel w cs ((ts.take k).foldl (Tm.run s mb me) Wr.zero) dv wr) (fun i _ => ts.length - (intOf i).toNat)
  case atStart => exact ⟨0, _, by omega, rfl, hR0⟩
  case round =>
    obtain ⟨k, dv, hk, rfl, hR⟩ := hrel
    by_cases hlt : k < ts.length
    · obtain ⟨b, o, rfl, e0, e1, e2, e3⟩ := (TmsAt.upd ht hR.upd (fun _ _ h => h)) k hlt
      have hlen := runs_len s mb me hs (ts.take k) Wr.zero (fun t h => hx t (List.mem_of_mem_take h))
      have htk : (ts.take k).length ≤ k := List.length_take_le _ _
      have Hs : Hid ((ts.take (k + 1)).foldl (Tm.run s mb me) Wr.zero = Tm.run s mb me ((ts.take k).foldl (Tm.run s mb me) Wr.zero) ts[k]) := Lib.hid (by
        rw [List.take_succ_eq_append_getElem hlt, List.foldl_append]; rfl)
      have htx := hx ts[k] (List.getElem_mem hlt)
      generalize (ts.take k).foldl (Tm.run s mb me) Wr.zero = x at *
      generalize ts[k] = t at *
      obtain ⟨tk, tt, tn, tc⟩ := t
      simp only at e0 e1 e2 e3 htx
      simp only [Wr.zero, List.length_nil] at hlen
      have hl1 : x.line.length ≤ 1000000 := by omega
      have hl2 : x.done.length ≤ 1000000 := by omega
      clear hlen htk
      have hgl : (groupB s mb me tn).size ≤ 1000 := by
        unfold groupB
        repeat' split
        · simp [ByteArray.size]
        · simp [ByteArray.size]
        · simp; omega
      have HR := Lib.hid hR
      have HW := Lib.hid hR.at_
      have d0 := cell_of hR.at_.blk 0 (v := dv) rfl
      have d1 := cell_of hR.at_.blk 1 (v := .int .u8 (nextC x.next)) rfl
      have d2 := cell_of hR.at_.blk 2 (v := .int .u8 (allC x.all)) rfl
      have f0 := free_of hR.at_.blk 0
      have f1 := free_of hR.at_.blk 1
      have f2 := free_of hR.at_.blk 2
      clear hR
      by_cases h1 : tk = 1
      · subst h1
        go_wp2_with (go_at_call 17; refine (rlay_any _ dv x tt _ HW.out (by omega) (by omega)).mono ?_; rintro e w' ⟨rfl, hW', hU'⟩)
        go_roundw
        case rel => exact ⟨k + 1, _, by omega, by go_num, by rw [Hs.out]; exact HR.out.step hW' hU' (fun g hg => .inl hg)⟩
        case measure => simp [intOf]; omega
      by_cases h2 : tk = 2
      · subst h2
        have Hm0 := Lib.hid HR.out.mt
        go_wp2
        have E2 := Lib.hid e2; clear e2
        refine wp_region_seq (fun v => Upd (fun _ => False) wr v) (fun i => i != 9) [(0, true), (1, true), (2, true), (3, true), (4, true), (5, true), (6, true), (7, true), (8, false), (9, false)] (by exact rfl) (by kernel_rfl) (by intro c a d v w h; cases d <;> exact h) ?_
        have hS : Upd (fun _ => False) wr wr.drew := (Upd.refl _ _).drew
        (apply seq_val (o := { dst := some 35, op := Op.move (Operand.tmp 7), type := 46, pos := "ref.go:61", after := #[], guard := none }) rfl (by rfl); (focus (intro w' hS'; have s0 := hS'.cell E2.out (fun h => h); go_simp; (first | done | exact rfl | (rw [if_pos (by omega)]; done)))); (focus exact hS))
        (try simp only [Act.put, List.setIfInBounds_toArray, List.set_cons_zero, List.set_cons_succ])
        (apply seq_val (o := { dst := some 36, op := Op.move (Operand.tmp 1), type := 9, pos := "ref.go:61", after := #[], guard := none }) rfl (by rfl); (focus (intro w' hS'; have s0 := hS'.cell E2.out (fun h => h); go_simp; (first | done | exact rfl | (rw [if_pos (by omega)]; done)))); (focus exact hS))
        (try simp only [Act.put, List.setIfInBounds_toArray, List.set_cons_zero, List.set_cons_succ])
        (apply seq_val (o := { dst := some 37, op := Op.load 25 (Operand.tmp 5), type := 25, pos := "ref.go:61", after := #[], guard := none }) rfl (by rfl); (focus (intro w' hS'; have s0 := hS'.cell E2.out (fun h => h); exact exec_load_row 25 _ rfl w.heap.size rfl 25 cs (0, 0) _ (hS'.heap Hm0.out (fun h => h)) rfl rfl (by rw [hm.size]; kernel_rfl))); (focus exact hS))
        (try simp only [Act.put, List.setIfInBounds_toArray, List.set_cons_zero, List.set_cons_succ])
        (apply seq_val (o := { dst := some 38, op := Op.move (Operand.tmp 0), type := 30, pos := "ref.go:61", after := #[], guard := none }) rfl (by rfl); (focus (intro w' hS'; have s0 := hS'.cell E2.out (fun h => h); go_simp; (first | done | exact rfl | (rw [if_pos (by omega)]; done)))); (focus exact hS))
        (try simp only [Act.put, List.setIfInBounds_toArray, List.set_cons_zero, List.set_cons_succ])
        (apply seq_val (o := { dst := some 39, op := Op.move (Operand.tmp 8), type := 3, pos := "ref.go:61", after := #[], guard := none }) rfl (by rfl); (focus (intro w' hS'; have s0 := hS'.cell E2.out (fun h => h); go_simp; (first | done | exact rfl | (rw [if_pos (by omega)]; done)))); (focus exact hS))
        (try simp only [Act.put, List.setIfInBounds_toArray, List.set_cons_zero, List.set_cons_succ])
        (apply seq_val (o := { dst := some 40, op := Op.indexAddr 30 (Operand.tmp 38) (Operand.tmp 39), type := 0, pos := "ref.go:61", after := #[{ on := 3, ground := Ground.data }, { on := 4, ground := Ground.data }], guard := none }) rfl (by rfl); (focus (intro w' hS'; have s0 := hS'.cell E2.out (fun h => h); go_simp; (first | done | exact rfl | (rw [if_pos (by omega)]; done)))); (focus exact hS))
        (try simp only [Act.put, List.setIfInBounds_toArray, List.set_cons_zero, List.set_cons_succ])
        (apply seq_val (o := { dst := some 41, op := Op.fieldAddr 29 (Operand.tmp 40) 2, type := 0, pos := "ref.go:61", after := #[{ on := 5, ground := Ground.data }], guard := none }) rfl (by rfl); (focus (intro w' hS'; have s0 := hS'.cell E2.out (fun h => h); go_simp; (first | done | exact rfl | (rw [if_pos (by omega)]; done)))); (focus exact hS))
        (try simp only [Act.put, List.setIfInBounds_toArray, List.set_cons_zero, List.set_cons_succ])
        (apply seq_val (o := { dst := some 42, op := Op.load 3 (Operand.tmp 41), type := 3, pos := "ref.go:61", after := #[{ on := 6, ground := Ground.data }], guard := none }) rfl (by rfl); (focus (intro w' hS'; have s0 := hS'.cell E2.out (fun h => h); go_simp; (first | done | exact rfl | (rw [if_pos (by omega)]; done)))); (focus exact hS))
        (try simp only [Act.put, List.setIfInBounds_toArray, List.set_cons_zero, List.set_cons_succ])
        apply seq_call (o := { dst := some 43, op := Op.call { callee := Callee.value (Operand.func 18), args := #[Operand.tmp 36, Operand.tmp 37, Operand.tmp 42], argTypes := #[9, 25, 3] }, type := 9, pos := "ref.go:61", after := #[{ on := 1, ground := Ground.data }, { on := 2, ground := Ground.data }, { on := 7, ground := Ground.data }], guard := none }) (fun v w' => v = Value.string (groupB s mb me tn) ∧ Upd (fun _ => False) wr w') rfl (by rfl)
        focus (go_simp; (first | done | exact rfl | exact ⟨rfl, rfl⟩))
        focus (refine (rgroup_any s cs mb me tn _ hm (by unfold maxLen; omega)).mono ?_; rintro e w' ⟨rfl, hB⟩; exact ⟨_, rfl, rfl, hS.then (Upd.of_below (F := fun _ => False) hB (fun _ h1 h2 => by omega)) (fun _ _ h => h)⟩)
        rintro v W3 ⟨rfl, hS⟩; refine ⟨fun _ => hS, ?_⟩
        (try simp only [Act.put, List.setIfInBounds_toArray, List.set_cons_zero, List.set_cons_succ])
        apply seq_call (o := { dst := some 44, op := Op.call { callee := Callee.value (Operand.func 17), args := #[Operand.tmp 35, Operand.tmp 43], argTypes := #[46, 9] }, type := 0, pos := "ref.go:61", after := #[{ on := 0, ground := Ground.data }, { on := 8, ground := Ground.data }, { on := 8, ground := Ground.chain }], guard := none }) (fun v w' => v = Value.tuple #[] ∧ RfAt w' (w.heap.size + 1 + 1) dv (x.lay (groupB s mb me tn).data.toList) ∧ Upd (fun k => k = w.heap.size + 1 + 1 ∨ dv.ownBlock = some k) wr w') rfl (by rfl)
        focus (go_simp; (first | done | exact rfl | exact ⟨rfl, rfl⟩))
        focus (refine (rlay_any _ dv x (groupB s mb me tn) _ (HW.out.upd hS (fun h => h) (fun _ _ h => h)) (by omega) (by omega)).mono ?_; rintro e w' ⟨rfl, hW', hU'⟩; exact ⟨_, rfl, rfl, hW', upd_through hS hU' (fun _ _ h => h)⟩)
        rintro v W4 ⟨rfl, hW', hU'⟩; refine ⟨(fun e => by cases e), ?_⟩
        (try simp only [Act.put, List.setIfInBounds_toArray, List.set_cons_zero, List.set_cons_succ])
        refine seq_nil ?_
        go_wp2
        go_roundw
        case rel => exact ⟨k + 1, _, by omega, by go_num, by rw [Hs.out]; exact HR.out.step hW' hU' (fun g hg => .inl hg)⟩
        case measure => simp [intOf]; omega
      by_cases h3 : tk = 3
      · subst h3
        go_wp2_with (at_builtin; refine wpList_append_lies _ rfl _ _ 26 rfl 0 9 i0 (.string ⟨#[]⟩) 1 16 Try.underlying26 hi hz0 hz1 hz2 rfl (by decide) dv (x.done.length + 1) (strsV (x.done ++ [x.line])) rfl (HW.out.hd.alloc _) ⟨wr.heap.size, 0, none⟩ 1 1 [.string ⟨#[]⟩] rfl rfl (cell_one_at _ _ rfl) (by simp [Value.oneCell']) (by omega) (by unfold maxLen; omega) (by omega) (Nat.zero_le _) _ rfl ?_; intro g cap w1 hown hgrow hat hlt1; have hS : Upd (fun k => dv.ownBlock = some k) wr w1 := ((Upd.refl _ _).alloc _).grown hgrow (fun k _ e => e); have q0 := hS.cell d0 HW.out.nd; have q1 := free_of (hS.heap HW.out.blk HW.out.nd) 0)
        have hc := HW.out.cut_close _ hown hgrow (by simpa using hat)
        go_roundw
        case rel => exact ⟨k + 1, _, by omega, by go_num, by rw [Hs.out]; exact HR.out.step hc.1 hc.2 (fun g hg => by simp only [Value.ownBlock, Option.some.injEq] at hg; subst hg; rcases hat with h | h; exact .inl h; right; simp at h; omega)⟩
        case measure => simp [intOf]; omega
      by_cases h4 : tk = 4
      · subst h4
        by_cases c0 : tc = 117
        · subst c0
          go_wp2
          go_roundw
          case rel => exact ⟨k + 1, _, by omega, by go_num, by rw [Hs.out]; exact HR.out.step (HW.out.say2 _ (by rw [heap_set HW.out.blk 1]; rfl) ((Upd.refl (fun k => k = w.heap.size + 1 + 1) wr).setCell (p := ⟨w.heap.size + 1 + 1, 1, none⟩) (fun _ => rfl) _) rfl rfl) (((Upd.refl (fun k => k = w.heap.size + 1 + 1) wr).setCell (p := ⟨w.heap.size + 1 + 1, 1, none⟩) (fun _ => rfl) _).mono (fun _ _ h => .inl h)) (fun g hg => .inl hg)⟩
          case measure => simp [intOf]; omega
        by_cases c1 : tc = 108
        · subst c1
          go_wp2
          go_roundw
          case rel => exact ⟨k + 1, _, by omega, by go_num, by rw [Hs.out]; exact HR.out.step (HW.out.say2 _ (by rw [heap_set HW.out.blk 1]; rfl) ((Upd.refl (fun k => k = w.heap.size + 1 + 1) wr).setCell (p := ⟨w.heap.size + 1 + 1, 1, none⟩) (fun _ => rfl) _) rfl rfl) (((Upd.refl (fun k => k = w.heap.size + 1 + 1) wr).setCell (p := ⟨w.heap.size + 1 + 1, 1, none⟩) (fun _ => rfl) _).mono (fun _ _ h => .inl h)) (fun g hg => .inl hg)⟩
          case measure => simp [intOf]; omega
        by_cases c2 : tc = 85
        · subst c2
          go_wp2
          go_roundw
          case rel => exact ⟨k + 1, _, by omega, by go_num, by rw [Hs.out]; exact HR.out.step (HW.out.say2 _ (by rw [heap_set (heap_set (heap_set HW.out.blk 1 _) 2 _) 2]; rfl) ((((Upd.refl (fun k => k = w.heap.size + 1 + 1) wr).setCell (p := ⟨w.heap.size + 1 + 1, 1, none⟩) (fun _ => rfl) _).setCell (p := ⟨w.heap.size + 1 + 1, 2, none⟩) (fun _ => rfl) _).setCell (p := ⟨w.heap.size + 1 + 1, 2, none⟩) (fun _ => rfl) _) rfl rfl) (((((Upd.refl (fun k => k = w.heap.size + 1 + 1) wr).setCell (p := ⟨w.heap.size + 1 + 1, 1, none⟩) (fun _ => rfl) _).setCell (p := ⟨w.heap.size + 1 + 1, 2, none⟩) (fun _ => rfl) _).setCell (p := ⟨w.heap.size + 1 + 1, 2, none⟩) (fun _ => rfl) _).mono (fun _ _ h => .inl h)) (fun g hg => .inl hg)⟩
          case measure => simp [intOf]; omega
        by_cases c3 : tc = 76
        · subst c3
          go_wp2
          go_roundw
          case rel => exact ⟨k + 1, _, by omega, by go_num, by rw [Hs.out]; exact HR.out.step (HW.out.say2 _ (by rw [heap_set (heap_set (heap_set HW.out.blk 1 _) 2 _) 2]; rfl) ((((Upd.refl (fun k => k = w.heap.size + 1 + 1) wr).setCell (p := ⟨w.heap.size + 1 + 1, 1, none⟩) (fun _ => rfl) _).setCell (p := ⟨w.heap.size + 1 + 1, 2, none⟩) (fun _ => rfl) _).setCell (p := ⟨w.heap.size + 1 + 1, 2, none⟩) (fun _ => rfl) _) rfl rfl) (((((Upd.refl (fun k => k = w.heap.size + 1 + 1) wr).setCell (p := ⟨w.heap.size + 1 + 1, 1, none⟩) (fun _ => rfl) _).setCell (p := ⟨w.heap.size + 1 + 1, 2, none⟩) (fun _ => rfl) _).setCell (p := ⟨w.heap.size + 1 + 1, 2, none⟩) (fun _ => rfl) _).mono (fun _ _ h => .inl h)) (fun g hg => .inl hg)⟩
          case measure => simp [intOf]; omega
        · have hh : Tm.run s mb me x ⟨4, tt, tn, tc⟩ = { x with next := none, all := none } := by simp [Tm.run, Wr.say, c0, c1, c2, c3]
          have Hh := Lib.hid hh; clear hh
          have b0 : (tc == 117) = false := by simpa using c0
          have b1 : (tc == 108) = false := by simpa using c1
          have b2 : (tc == 85) = false := by simpa using c2
          have b3 : (tc == 76) = false := by simpa using c3
          clear c0 c1 c2 c3
          go_wp2
          go_roundw
          case rel => exact ⟨k + 1, _, by omega, by go_num, by rw [Hs.out, Hh.out]; exact HR.out.step (HW.out.say2 _ (by rw [heap_set (heap_set HW.out.blk 1 _) 2]; rfl) (((Upd.refl (fun k => k = w.heap.size + 1 + 1) wr).setCell (p := ⟨w.heap.size + 1 + 1, 1, none⟩) (fun _ => rfl) _).setCell (p := ⟨w.heap.size + 1 + 1, 2, none⟩) (fun _ => rfl) _) rfl rfl) ((((Upd.refl (fun k => k = w.heap.size + 1 + 1) wr).setCell (p := ⟨w.heap.size + 1 + 1, 1, none⟩) (fun _ => rfl) _).setCell (p := ⟨w.heap.size + 1 + 1, 2, none⟩) (fun _ => rfl) _).mono (fun _ _ h => .inl h)) (fun g hg => .inl hg)⟩
          case measure => simp [intOf]; omega
      · have hh : Tm.run s mb me x ⟨tk, tt, tn, tc⟩ = x := by simp [Tm.run, h1, h2, h3, h4]
        have Hh := Lib.hid hh; clear hh
        go_wp2_with fail
        go_roundw
        case rel => exact ⟨k + 1, _, by omega, by go_num, by rw [Hs.out, Hh.out]; exact HR.out⟩
        case measure => simp [intOf]; omega
    · obtain rfl : k = ts.length := by omega
      rw [List.take_length] at hR
      obtain ⟨y, hy⟩ : ∃ y, ts.foldl (Tm.run s mb me) ⟨[], [], none, none⟩ = y := ⟨_, rfl⟩
      have Hy : Hid (expLines s mb me ts = y.done ++ [y.line]) := Lib.hid (by unfold expLines runTms Wr.zero; rw [hy]; rfl)
      unfold Wr.zero at hR
      rw [hy] at hR
      clear hy hlt
      have HR := Lib.hid hR
      have d0 := cell_of hR.at_.blk 0 (v := dv) rfl
      clear hR
      go_wp2_with fail
      go_ret
      refine ⟨dv, rfl, HR.out.upd.below (Nat.le_refl _) (fun _ _ h => h), ?_⟩
      rw [Hy.out]
      have := ownsRow_base HR.out.at_.hd (base' := w.heap.size) (fun g hg => by have := HR.out.dn g hg; omega)
      simpa using this
end Go.Proofs.Ytalgdihaeglleaa
