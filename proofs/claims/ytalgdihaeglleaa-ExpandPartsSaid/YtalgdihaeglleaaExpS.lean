/- Contract of lay of the document's answer for expand. -/
import Derived.Test.YtalgdihaeglleaaExpR
namespace Go.Proofs.Ytalgdihaeglleaa
open Go.RowKit

set_option maxRecDepth 100000 in
set_option maxHeartbeats 4000000 in
theorem rlay_any (b : Nat) (dv : Value) (x : Wr) (s : ByteArray) (w : World) (h : RfAt w b dv x) (hlen : x.line.length + s.size ≤ 1000000000) (hd : x.done.length ≤ 1000000000) :
    Calls Try.prog 17 #[.pointer (some ⟨b, 0, none⟩), .string s] w (RLayPost w b dv (x.lay s.data.toList)) := by
  obtain ⟨g, cap, rfl, hg0, hgb⟩ := h.form
  obtain ⟨n, hn⟩ : ∃ n, x.done.length = n := ⟨_, rfl⟩
  have h0 := h
  rw [hn] at hd h0
  simp only [hn]
  go_enter Try.func17, Try.ntmps17
  go_wp2
  go_loopw [4] (fun i wr => ∃ (k : Nat), k ≤ s.size ∧ i = .int .i64 k ∧ RfAt wr b (.slice (some ⟨g, 0, none⟩) (n + 1) cap) (x.lay (s.data.toList.take k)) ∧ Upd (fun k => k = b ∨ k = g) w wr) (fun i _ => s.size - (intOf i).toNat)
  case atStart => exact ⟨0, by omega, rfl, by simpa [Wr.lay] using h0, Upd.refl _ _⟩
  case round =>
    obtain ⟨k, hk, rfl, hW, hU⟩ := hrel
    by_cases hlt : k < s.size
    · have Hs := Lib.hid (Wr.lay_snoc x (s.data.toList.take k) s[k])
      have Ht := Lib.hid (take_snoc s k hlt)
      have hll := Wr.lay_line x (s.data.toList.take k)
      have hdd := Wr.lay_done x (s.data.toList.take k)
      have htk : (s.data.toList.take k).length ≤ k := List.length_take_le _ _
      obtain ⟨y, hy⟩ : ∃ y, x.lay (s.data.toList.take k) = y := ⟨_, rfl⟩
      rw [hy] at hW Hs hll hdd
      clear hy
      have hy1 : y.line.length ≤ 1000000000 := by omega
      have hyn : y.done.length = n := by rw [hdd, hn]
      obtain ⟨W1, hW1⟩ : ∃ W1, wr.setCell ⟨b, 1, none⟩ (.int .u8 0) = W1 := ⟨_, rfl⟩
      have hR1 : RfAt W1 b (.slice (some ⟨g, 0, none⟩) (n + 1) cap) { y with next := none } := by
        subst hW1
        refine ⟨by rw [heap_set hW.blk 1]; rfl, ownsRow_set hW.hd hW.nd _, hW.nd⟩
      have hU1 : Upd (fun k => k = b ∨ k = g) w W1 := by subst hW1; exact hU.setCell (p := ⟨b, 1, none⟩) (fun _ => .inl rfl) _
      have c0 := cell_of hW.blk 0 (v := .slice (some ⟨g, 0, none⟩) (n + 1) cap) rfl
      have c1 := cell_of hW.blk 1 (v := .int .u8 (nextC y.next)) rfl
      have c2 := cell_of hW.blk 2 (v := .int .u8 (allC y.all)) rfl
      have f1 := free_of hW.blk 1
      have d0 := cell_of hR1.blk 0 (v := .slice (some ⟨g, 0, none⟩) (n + 1) cap) rfl
      have d1 : W1.cell? ⟨g, n, none⟩ = some (.string ⟨y.line.toArray⟩) := by
        have := ownsRow_cell hR1.hd rfl (show n < y.done.length + 1 by omega)
        rw [Addr.add_lit] at this
        rw [Nat.zero_add] at this
        rw [this]; simp [strsV, strV, ← hyn]
      have hgW : W1.frozen? ⟨g, n, none⟩ = false := ownsRow_free hR1.hd rfl n
      have Hh : Hid (howM (if nextC y.next = 0 then allC y.all else nextC y.next) = y.how) := Lib.hid (by
        unfold Wr.how
        rcases y.next with _ | m | m <;> rcases y.all with _ | m2 | m2 <;> rfl)
      have HR1 := Lib.hid hR1
      have HU1 := Lib.hid hU1
      have HW1 := Lib.hid hW1
      have Hyn := Lib.hid hyn
      have hcr := byte_rng s[k]
      have hc0 := hcr.1
      have hc1 := hcr.2
      clear hcr hR1 hU1 hU hW h h0 hW1 hdd hn hyn
      generalize nextC y.next = B at *
      generalize allC y.all = A at *
      have hsk : s[k] = s[k] := rfl
      by_cases hB : B = 0
      · subst hB
        rw [if_pos rfl] at Hh
        go_wp2
        rw [HW1.out]
        have D1 := Lib.hid d1; clear d1
        have D0 := Lib.hid d0; clear d0
        refine wp_region_seq (fun v => Upd (fun _ => False) W1 v) (fun i => i != 21) [(0, true), (1, true), (2, true), (3, true), (4, true), (5, true), (6, true), (7, true), (8, true), (9, true), (10, true), (11, true), (12, true), (13, true), (14, true), (15, true), (16, false), (17, false), (18, false), (19, true), (20, false), (21, false)] (by exact rfl) (by kernel_rfl) (by intro c a d v w h; cases d <;> exact h) ?_
        have hS : Upd (fun _ => False) W1 W1.drew := (Upd.refl _ _).drew
        (apply seq_val (o := { dst := some 35, op := Op.move (Operand.tmp 0), type := 46, pos := "ref.go:36", after := #[], guard := none }) rfl (by rfl); (focus (intro w' hS'; have s0 := hS'.cell D0.out (fun h => h); have s1 := hS'.cell D1.out (fun h => h); go_simp; (first | done | exact rfl | (rw [if_pos (by omega)]; done)))); (focus exact hS))
        (try simp only [Act.put, List.setIfInBounds_toArray, List.set_cons_zero, List.set_cons_succ])
        (apply seq_val (o := { dst := some 36, op := Op.nilCheck (Operand.tmp 35), type := 0, pos := "ref.go:36", after := #[{ on := 0, ground := Ground.data }], guard := none }) rfl (by rfl); (focus (intro w' hS'; have s0 := hS'.cell D0.out (fun h => h); have s1 := hS'.cell D1.out (fun h => h); go_simp; (first | done | exact rfl | (rw [if_pos (by omega)]; done)))); (focus exact hS))
        (try simp only [Act.put, List.setIfInBounds_toArray, List.set_cons_zero, List.set_cons_succ])
        (apply seq_val (o := { dst := some 37, op := Op.fieldAddr 48 (Operand.tmp 36) 0, type := 0, pos := "ref.go:36", after := #[{ on := 1, ground := Ground.data }], guard := none }) rfl (by rfl); (focus (intro w' hS'; have s0 := hS'.cell D0.out (fun h => h); have s1 := hS'.cell D1.out (fun h => h); go_simp; (first | done | exact rfl | (rw [if_pos (by omega)]; done)))); (focus exact hS))
        (try simp only [Act.put, List.setIfInBounds_toArray, List.set_cons_zero, List.set_cons_succ])
        (apply seq_val (o := { dst := some 38, op := Op.load 26 (Operand.tmp 37), type := 26, pos := "ref.go:36", after := #[{ on := 2, ground := Ground.data }], guard := none }) rfl (by rfl); (focus (intro w' hS'; have s0 := hS'.cell D0.out (fun h => h); have s1 := hS'.cell D1.out (fun h => h); go_simp; (first | done | exact rfl | (rw [if_pos (by omega)]; done)))); (focus exact hS))
        (try simp only [Act.put, List.setIfInBounds_toArray, List.set_cons_zero, List.set_cons_succ])
        (apply seq_val (o := { dst := some 39, op := Op.move (Operand.tmp 6), type := 3, pos := "ref.go:36", after := #[], guard := none }) rfl (by rfl); (focus (intro w' hS'; have s0 := hS'.cell D0.out (fun h => h); have s1 := hS'.cell D1.out (fun h => h); go_simp; (first | done | exact rfl | (rw [if_pos (by omega)]; done)))); (focus exact hS))
        (try simp only [Act.put, List.setIfInBounds_toArray, List.set_cons_zero, List.set_cons_succ])
        (apply seq_val (o := { dst := some 40, op := Op.move (Operand.tmp 0), type := 46, pos := "ref.go:36", after := #[], guard := none }) rfl (by rfl); (focus (intro w' hS'; have s0 := hS'.cell D0.out (fun h => h); have s1 := hS'.cell D1.out (fun h => h); go_simp; (first | done | exact rfl | (rw [if_pos (by omega)]; done)))); (focus exact hS))
        (try simp only [Act.put, List.setIfInBounds_toArray, List.set_cons_zero, List.set_cons_succ])
        (apply seq_val (o := { dst := some 41, op := Op.nilCheck (Operand.tmp 40), type := 0, pos := "ref.go:36", after := #[{ on := 5, ground := Ground.data }], guard := none }) rfl (by rfl); (focus (intro w' hS'; have s0 := hS'.cell D0.out (fun h => h); have s1 := hS'.cell D1.out (fun h => h); go_simp; (first | done | exact rfl | (rw [if_pos (by omega)]; done)))); (focus exact hS))
        (try simp only [Act.put, List.setIfInBounds_toArray, List.set_cons_zero, List.set_cons_succ])
        (apply seq_val (o := { dst := some 42, op := Op.fieldAddr 48 (Operand.tmp 41) 0, type := 0, pos := "ref.go:36", after := #[{ on := 6, ground := Ground.data }], guard := none }) rfl (by rfl); (focus (intro w' hS'; have s0 := hS'.cell D0.out (fun h => h); have s1 := hS'.cell D1.out (fun h => h); go_simp; (first | done | exact rfl | (rw [if_pos (by omega)]; done)))); (focus exact hS))
        (try simp only [Act.put, List.setIfInBounds_toArray, List.set_cons_zero, List.set_cons_succ])
        (apply seq_val (o := { dst := some 43, op := Op.load 26 (Operand.tmp 42), type := 26, pos := "ref.go:36", after := #[{ on := 7, ground := Ground.data }], guard := none }) rfl (by rfl); (focus (intro w' hS'; have s0 := hS'.cell D0.out (fun h => h); have s1 := hS'.cell D1.out (fun h => h); go_simp; (first | done | exact rfl | (rw [if_pos (by omega)]; done)))); (focus exact hS))
        (try simp only [Act.put, List.setIfInBounds_toArray, List.set_cons_zero, List.set_cons_succ])
        (apply seq_val (o := { dst := some 44, op := Op.move (Operand.tmp 6), type := 3, pos := "ref.go:36", after := #[], guard := none }) rfl (by rfl); (focus (intro w' hS'; have s0 := hS'.cell D0.out (fun h => h); have s1 := hS'.cell D1.out (fun h => h); go_simp; (first | done | exact rfl | (rw [if_pos (by omega)]; done)))); (focus exact hS))
        (try simp only [Act.put, List.setIfInBounds_toArray, List.set_cons_zero, List.set_cons_succ])
        (apply seq_val (o := { dst := some 45, op := Op.indexAddr 26 (Operand.tmp 43) (Operand.tmp 44), type := 0, pos := "ref.go:36", after := #[{ on := 8, ground := Ground.data }, { on := 9, ground := Ground.data }], guard := none }) rfl (by rfl); (focus (intro w' hS'; have s0 := hS'.cell D0.out (fun h => h); have s1 := hS'.cell D1.out (fun h => h); go_simp; (first | done | exact rfl | (rw [if_pos (by omega)]; done)))); (focus exact hS))
        (try simp only [Act.put, List.setIfInBounds_toArray, List.set_cons_zero, List.set_cons_succ])
        (apply seq_val (o := { dst := some 46, op := Op.load 9 (Operand.tmp 45), type := 9, pos := "ref.go:36", after := #[{ on := 10, ground := Ground.data }], guard := none }) rfl (by rfl); (focus (intro w' hS'; have s0 := hS'.cell D0.out (fun h => h); have s1 := hS'.cell D1.out (fun h => h); go_simp; (first | done | exact rfl | (rw [if_pos (by omega)]; done)))); (focus exact hS))
        (try simp only [Act.put, List.setIfInBounds_toArray, List.set_cons_zero, List.set_cons_succ])
        (apply seq_val (o := { dst := some 47, op := Op.move (Operand.tmp 1), type := 9, pos := "ref.go:36", after := #[], guard := none }) rfl (by rfl); (focus (intro w' hS'; have s0 := hS'.cell D0.out (fun h => h); have s1 := hS'.cell D1.out (fun h => h); go_simp; (first | done | exact rfl | (rw [if_pos (by omega)]; done)))); (focus exact hS))
        (try simp only [Act.put, List.setIfInBounds_toArray, List.set_cons_zero, List.set_cons_succ])
        (apply seq_val (o := { dst := some 48, op := Op.move (Operand.tmp 4), type := 3, pos := "ref.go:36", after := #[], guard := none }) rfl (by rfl); (focus (intro w' hS'; have s0 := hS'.cell D0.out (fun h => h); have s1 := hS'.cell D1.out (fun h => h); go_simp; (first | done | exact rfl | (rw [if_pos (by omega)]; done)))); (focus exact hS))
        (try simp only [Act.put, List.setIfInBounds_toArray, List.set_cons_zero, List.set_cons_succ])
        (apply seq_val (o := { dst := some 49, op := Op.index 9 (Operand.tmp 47) (Operand.tmp 48), type := 5, pos := "ref.go:36", after := #[{ on := 12, ground := Ground.data }, { on := 13, ground := Ground.data }], guard := none }) rfl (by rfl); (focus (intro w' hS'; have s0 := hS'.cell D0.out (fun h => h); have s1 := hS'.cell D1.out (fun h => h); go_simp; (first | done | exact rfl | (rw [if_pos (by omega)]; done)))); (focus exact hS))
        (try simp only [Act.put, List.setIfInBounds_toArray, List.set_cons_zero, List.set_cons_succ])
        (apply seq_val (o := { dst := some 50, op := Op.move (Operand.tmp 5), type := 5, pos := "ref.go:36", after := #[], guard := none }) rfl (by rfl); (focus (intro w' hS'; have s0 := hS'.cell D0.out (fun h => h); have s1 := hS'.cell D1.out (fun h => h); go_simp; (first | done | exact rfl | (rw [if_pos (by omega)]; done)))); (focus exact hS))
        (try simp only [Act.put, List.setIfInBounds_toArray, List.set_cons_zero, List.set_cons_succ])
        apply seq_call (o := { dst := some 51, op := Op.call { callee := Callee.value (Operand.func 21), args := #[Operand.tmp 49, Operand.tmp 50], argTypes := #[5, 5] }, type := 5, pos := "ref.go:36", after := #[{ on := 14, ground := Ground.data }, { on := 15, ground := Ground.data }], guard := none }) (fun v w' => v = Value.int .u8 (caseI (howM A) s[k].toNat) ∧ w' = W1.drew) rfl (by rfl)
        focus (go_simp; (first | done | exact rfl | exact ⟨rfl, rfl⟩))
        focus (refine (cased_any _ _ hc0 hc1 _).mono ?_; rintro e w' ⟨rfl, rfl⟩; exact ⟨_, rfl, rfl, rfl⟩)
        rintro v w' ⟨rfl, rfl⟩; refine ⟨fun _ => hS, ?_⟩
        (try simp only [Act.put, List.setIfInBounds_toArray, List.set_cons_zero, List.set_cons_succ])
        refine seq_loud (o := { dst := some 52, op := Op.buildSlice 37 1 #[(0, Operand.tmp 51)], type := 37, pos := "ref.go:36", after := #[{ on := 16, ground := Ground.data }], guard := none }) rfl (fun K hK => ?_)
        go_simp; obtain ⟨W2, hW2⟩ : ∃ W2, (W1.alloc (Obj.cells #[Value.int IntKind.u8 (caseI (howM A) s[k].toNat)] 5)).drew = W2 := ⟨_, rfl⟩; rw [hW2]; have hS : Upd (fun _ => False) W1 W2 := hW2 ▸ ((Upd.refl _ _).alloc _).drew; have ho2 : W2.ownsRow 0 5 1 (.slice (some ⟨W1.heap.size, 0, none⟩) 1 1) 1 (bytesV [caseU (howM A) s[k]]) := by { have := ownsRow_upd (F := fun _ => False) (own_one W1 (byteV (caseU (howM A) s[k])) 5) (Upd.refl _ _).drew (fun _ _ h => h); unfold byteV at this; rw [caseU_val] at this; rw [← hW2]; simpa [bytesV, byteV, caseU_val] using this }; clear hW2; refine hK _ _ (fun _ => hS) ?_; clear hK K
        (try simp only [Act.put, List.setIfInBounds_toArray, List.set_cons_zero, List.set_cons_succ])
        refine seq_loud (o := { dst := some 53, op := Op.convert 37 9 (Operand.tmp 52), type := 9, pos := "ref.go:36", after := #[{ on := 17, ground := Ground.data }], guard := none }) rfl (fun K hK => ?_)
        refine loud_val (by rfl) (exec_conv rfl rfl (conv_own ho2)) ?_; refine hK _ _ (fun _ => hS) ?_; clear hK K
        (try simp only [Act.put, List.setIfInBounds_toArray, List.set_cons_zero, List.set_cons_succ])
        (apply seq_val (o := { dst := some 54, op := Op.binOp BinOp.add 9 (Operand.tmp 46) (Operand.tmp 53) 9, type := 9, pos := "ref.go:36", after := #[{ on := 11, ground := Ground.data }, { on := 18, ground := Ground.data }], guard := none }) rfl (by rfl); (focus (intro w' hS'; have s0 := hS'.cell D0.out (fun h => h); have s1 := hS'.cell D1.out (fun h => h); go_simp; rw [if_neg (by simp [ByteArray.size]; omega)])); (focus exact hS))
        (try simp only [Act.put, List.setIfInBounds_toArray, List.set_cons_zero, List.set_cons_succ])
        refine seq_loud (o := { dst := some 55, op := Op.indexAddr 26 (Operand.tmp 38) (Operand.tmp 39), type := 0, pos := "ref.go:36", after := #[{ on := 3, ground := Ground.data }, { on := 4, ground := Ground.data }, { on := 0, ground := Ground.phase }, { on := 1, ground := Ground.phase }, { on := 2, ground := Ground.phase }, { on := 3, ground := Ground.phase }, { on := 4, ground := Ground.phase }, { on := 5, ground := Ground.phase }, { on := 6, ground := Ground.phase }, { on := 7, ground := Ground.phase }, { on := 8, ground := Ground.phase }, { on := 9, ground := Ground.phase }, { on := 10, ground := Ground.phase }, { on := 11, ground := Ground.phase }, { on := 12, ground := Ground.phase }, { on := 13, ground := Ground.phase }, { on := 14, ground := Ground.phase }, { on := 15, ground := Ground.phase }, { on := 16, ground := Ground.phase }, { on := 17, ground := Ground.phase }, { on := 18, ground := Ground.phase }, { on := 19, ground := Ground.phase }], guard := none }) rfl (fun K hK => ?_)
        go_simp; (try rw [if_pos (by omega)]); refine hK _ _ (fun _ => hS) ?_; clear hK K
        (try simp only [Act.put, List.setIfInBounds_toArray, List.set_cons_zero, List.set_cons_succ])
        refine seq_loud (o := { dst := none, op := Op.store 9 (Operand.tmp 55) (Operand.tmp 54), type := 0, pos := "ref.go:36", after := #[{ on := 20, ground := Ground.data }, { on := 19, ground := Ground.data }, { on := 16, ground := Ground.chain }, { on := 0, ground := Ground.phase }, { on := 1, ground := Ground.phase }, { on := 2, ground := Ground.phase }, { on := 3, ground := Ground.phase }, { on := 4, ground := Ground.phase }, { on := 5, ground := Ground.phase }, { on := 6, ground := Ground.phase }, { on := 7, ground := Ground.phase }, { on := 8, ground := Ground.phase }, { on := 9, ground := Ground.phase }, { on := 10, ground := Ground.phase }, { on := 11, ground := Ground.phase }, { on := 12, ground := Ground.phase }, { on := 13, ground := Ground.phase }, { on := 14, ground := Ground.phase }, { on := 15, ground := Ground.phase }, { on := 16, ground := Ground.phase }, { on := 17, ground := Ground.phase }, { on := 18, ground := Ground.phase }, { on := 19, ground := Ground.phase }], guard := none }) rfl (fun K hK => ?_)
        have s1 := hS.cell D1.out (fun h => h); have s2 : W2.frozen? ⟨g, n, none⟩ = false := ownsRow_free (ownsRow_upd HR1.out.hd hS (fun _ _ h => h)) rfl n; go_simp; refine hK _ _ (fun e => by cases e) ?_; clear hK K
        (try simp only [Act.put, List.setIfInBounds_toArray, List.set_cons_zero, List.set_cons_succ])
        refine seq_nil ?_
        go_wp2
        go_roundw
        case rel => exact ⟨k + 1, by omega, by go_num, by rw [Ht.out, Hs.out]; exact HR1.out.put Hyn.out hS hgb _ (by rw [bytes_cat, Hh.out]), HU1.out.then hS (fun _ _ h => h.elim) |>.setCell (p := ⟨g, n, none⟩) (fun _ => .inr rfl) _⟩
        case measure => simp [intOf]; omega
      · rw [if_neg hB] at Hh
        go_wp2
        rw [HW1.out]
        have D1 := Lib.hid d1; clear d1
        have D0 := Lib.hid d0; clear d0
        refine wp_region_seq (fun v => Upd (fun _ => False) W1 v) (fun i => i != 21) [(0, true), (1, true), (2, true), (3, true), (4, true), (5, true), (6, true), (7, true), (8, true), (9, true), (10, true), (11, true), (12, true), (13, true), (14, true), (15, true), (16, false), (17, false), (18, false), (19, true), (20, false), (21, false)] (by exact rfl) (by kernel_rfl) (by intro c a d v w h; cases d <;> exact h) ?_
        have hS : Upd (fun _ => False) W1 W1.drew := (Upd.refl _ _).drew
        (apply seq_val (o := { dst := some 35, op := Op.move (Operand.tmp 0), type := 46, pos := "ref.go:36", after := #[], guard := none }) rfl (by rfl); (focus (intro w' hS'; have s0 := hS'.cell D0.out (fun h => h); have s1 := hS'.cell D1.out (fun h => h); go_simp; (first | done | exact rfl | (rw [if_pos (by omega)]; done)))); (focus exact hS))
        (try simp only [Act.put, List.setIfInBounds_toArray, List.set_cons_zero, List.set_cons_succ])
        (apply seq_val (o := { dst := some 36, op := Op.nilCheck (Operand.tmp 35), type := 0, pos := "ref.go:36", after := #[{ on := 0, ground := Ground.data }], guard := none }) rfl (by rfl); (focus (intro w' hS'; have s0 := hS'.cell D0.out (fun h => h); have s1 := hS'.cell D1.out (fun h => h); go_simp; (first | done | exact rfl | (rw [if_pos (by omega)]; done)))); (focus exact hS))
        (try simp only [Act.put, List.setIfInBounds_toArray, List.set_cons_zero, List.set_cons_succ])
        (apply seq_val (o := { dst := some 37, op := Op.fieldAddr 48 (Operand.tmp 36) 0, type := 0, pos := "ref.go:36", after := #[{ on := 1, ground := Ground.data }], guard := none }) rfl (by rfl); (focus (intro w' hS'; have s0 := hS'.cell D0.out (fun h => h); have s1 := hS'.cell D1.out (fun h => h); go_simp; (first | done | exact rfl | (rw [if_pos (by omega)]; done)))); (focus exact hS))
        (try simp only [Act.put, List.setIfInBounds_toArray, List.set_cons_zero, List.set_cons_succ])
        (apply seq_val (o := { dst := some 38, op := Op.load 26 (Operand.tmp 37), type := 26, pos := "ref.go:36", after := #[{ on := 2, ground := Ground.data }], guard := none }) rfl (by rfl); (focus (intro w' hS'; have s0 := hS'.cell D0.out (fun h => h); have s1 := hS'.cell D1.out (fun h => h); go_simp; (first | done | exact rfl | (rw [if_pos (by omega)]; done)))); (focus exact hS))
        (try simp only [Act.put, List.setIfInBounds_toArray, List.set_cons_zero, List.set_cons_succ])
        (apply seq_val (o := { dst := some 39, op := Op.move (Operand.tmp 6), type := 3, pos := "ref.go:36", after := #[], guard := none }) rfl (by rfl); (focus (intro w' hS'; have s0 := hS'.cell D0.out (fun h => h); have s1 := hS'.cell D1.out (fun h => h); go_simp; (first | done | exact rfl | (rw [if_pos (by omega)]; done)))); (focus exact hS))
        (try simp only [Act.put, List.setIfInBounds_toArray, List.set_cons_zero, List.set_cons_succ])
        (apply seq_val (o := { dst := some 40, op := Op.move (Operand.tmp 0), type := 46, pos := "ref.go:36", after := #[], guard := none }) rfl (by rfl); (focus (intro w' hS'; have s0 := hS'.cell D0.out (fun h => h); have s1 := hS'.cell D1.out (fun h => h); go_simp; (first | done | exact rfl | (rw [if_pos (by omega)]; done)))); (focus exact hS))
        (try simp only [Act.put, List.setIfInBounds_toArray, List.set_cons_zero, List.set_cons_succ])
        (apply seq_val (o := { dst := some 41, op := Op.nilCheck (Operand.tmp 40), type := 0, pos := "ref.go:36", after := #[{ on := 5, ground := Ground.data }], guard := none }) rfl (by rfl); (focus (intro w' hS'; have s0 := hS'.cell D0.out (fun h => h); have s1 := hS'.cell D1.out (fun h => h); go_simp; (first | done | exact rfl | (rw [if_pos (by omega)]; done)))); (focus exact hS))
        (try simp only [Act.put, List.setIfInBounds_toArray, List.set_cons_zero, List.set_cons_succ])
        (apply seq_val (o := { dst := some 42, op := Op.fieldAddr 48 (Operand.tmp 41) 0, type := 0, pos := "ref.go:36", after := #[{ on := 6, ground := Ground.data }], guard := none }) rfl (by rfl); (focus (intro w' hS'; have s0 := hS'.cell D0.out (fun h => h); have s1 := hS'.cell D1.out (fun h => h); go_simp; (first | done | exact rfl | (rw [if_pos (by omega)]; done)))); (focus exact hS))
        (try simp only [Act.put, List.setIfInBounds_toArray, List.set_cons_zero, List.set_cons_succ])
        (apply seq_val (o := { dst := some 43, op := Op.load 26 (Operand.tmp 42), type := 26, pos := "ref.go:36", after := #[{ on := 7, ground := Ground.data }], guard := none }) rfl (by rfl); (focus (intro w' hS'; have s0 := hS'.cell D0.out (fun h => h); have s1 := hS'.cell D1.out (fun h => h); go_simp; (first | done | exact rfl | (rw [if_pos (by omega)]; done)))); (focus exact hS))
        (try simp only [Act.put, List.setIfInBounds_toArray, List.set_cons_zero, List.set_cons_succ])
        (apply seq_val (o := { dst := some 44, op := Op.move (Operand.tmp 6), type := 3, pos := "ref.go:36", after := #[], guard := none }) rfl (by rfl); (focus (intro w' hS'; have s0 := hS'.cell D0.out (fun h => h); have s1 := hS'.cell D1.out (fun h => h); go_simp; (first | done | exact rfl | (rw [if_pos (by omega)]; done)))); (focus exact hS))
        (try simp only [Act.put, List.setIfInBounds_toArray, List.set_cons_zero, List.set_cons_succ])
        (apply seq_val (o := { dst := some 45, op := Op.indexAddr 26 (Operand.tmp 43) (Operand.tmp 44), type := 0, pos := "ref.go:36", after := #[{ on := 8, ground := Ground.data }, { on := 9, ground := Ground.data }], guard := none }) rfl (by rfl); (focus (intro w' hS'; have s0 := hS'.cell D0.out (fun h => h); have s1 := hS'.cell D1.out (fun h => h); go_simp; (first | done | exact rfl | (rw [if_pos (by omega)]; done)))); (focus exact hS))
        (try simp only [Act.put, List.setIfInBounds_toArray, List.set_cons_zero, List.set_cons_succ])
        (apply seq_val (o := { dst := some 46, op := Op.load 9 (Operand.tmp 45), type := 9, pos := "ref.go:36", after := #[{ on := 10, ground := Ground.data }], guard := none }) rfl (by rfl); (focus (intro w' hS'; have s0 := hS'.cell D0.out (fun h => h); have s1 := hS'.cell D1.out (fun h => h); go_simp; (first | done | exact rfl | (rw [if_pos (by omega)]; done)))); (focus exact hS))
        (try simp only [Act.put, List.setIfInBounds_toArray, List.set_cons_zero, List.set_cons_succ])
        (apply seq_val (o := { dst := some 47, op := Op.move (Operand.tmp 1), type := 9, pos := "ref.go:36", after := #[], guard := none }) rfl (by rfl); (focus (intro w' hS'; have s0 := hS'.cell D0.out (fun h => h); have s1 := hS'.cell D1.out (fun h => h); go_simp; (first | done | exact rfl | (rw [if_pos (by omega)]; done)))); (focus exact hS))
        (try simp only [Act.put, List.setIfInBounds_toArray, List.set_cons_zero, List.set_cons_succ])
        (apply seq_val (o := { dst := some 48, op := Op.move (Operand.tmp 4), type := 3, pos := "ref.go:36", after := #[], guard := none }) rfl (by rfl); (focus (intro w' hS'; have s0 := hS'.cell D0.out (fun h => h); have s1 := hS'.cell D1.out (fun h => h); go_simp; (first | done | exact rfl | (rw [if_pos (by omega)]; done)))); (focus exact hS))
        (try simp only [Act.put, List.setIfInBounds_toArray, List.set_cons_zero, List.set_cons_succ])
        (apply seq_val (o := { dst := some 49, op := Op.index 9 (Operand.tmp 47) (Operand.tmp 48), type := 5, pos := "ref.go:36", after := #[{ on := 12, ground := Ground.data }, { on := 13, ground := Ground.data }], guard := none }) rfl (by rfl); (focus (intro w' hS'; have s0 := hS'.cell D0.out (fun h => h); have s1 := hS'.cell D1.out (fun h => h); go_simp; (first | done | exact rfl | (rw [if_pos (by omega)]; done)))); (focus exact hS))
        (try simp only [Act.put, List.setIfInBounds_toArray, List.set_cons_zero, List.set_cons_succ])
        (apply seq_val (o := { dst := some 50, op := Op.move (Operand.tmp 5), type := 5, pos := "ref.go:36", after := #[], guard := none }) rfl (by rfl); (focus (intro w' hS'; have s0 := hS'.cell D0.out (fun h => h); have s1 := hS'.cell D1.out (fun h => h); go_simp; (first | done | exact rfl | (rw [if_pos (by omega)]; done)))); (focus exact hS))
        (try simp only [Act.put, List.setIfInBounds_toArray, List.set_cons_zero, List.set_cons_succ])
        apply seq_call (o := { dst := some 51, op := Op.call { callee := Callee.value (Operand.func 21), args := #[Operand.tmp 49, Operand.tmp 50], argTypes := #[5, 5] }, type := 5, pos := "ref.go:36", after := #[{ on := 14, ground := Ground.data }, { on := 15, ground := Ground.data }], guard := none }) (fun v w' => v = Value.int .u8 (caseI (howM B) s[k].toNat) ∧ w' = W1.drew) rfl (by rfl)
        focus (go_simp; (first | done | exact rfl | exact ⟨rfl, rfl⟩))
        focus (refine (cased_any _ _ hc0 hc1 _).mono ?_; rintro e w' ⟨rfl, rfl⟩; exact ⟨_, rfl, rfl, rfl⟩)
        rintro v w' ⟨rfl, rfl⟩; refine ⟨fun _ => hS, ?_⟩
        (try simp only [Act.put, List.setIfInBounds_toArray, List.set_cons_zero, List.set_cons_succ])
        refine seq_loud (o := { dst := some 52, op := Op.buildSlice 37 1 #[(0, Operand.tmp 51)], type := 37, pos := "ref.go:36", after := #[{ on := 16, ground := Ground.data }], guard := none }) rfl (fun K hK => ?_)
        go_simp; obtain ⟨W2, hW2⟩ : ∃ W2, (W1.alloc (Obj.cells #[Value.int IntKind.u8 (caseI (howM B) s[k].toNat)] 5)).drew = W2 := ⟨_, rfl⟩; rw [hW2]; have hS : Upd (fun _ => False) W1 W2 := hW2 ▸ ((Upd.refl _ _).alloc _).drew; have ho2 : W2.ownsRow 0 5 1 (.slice (some ⟨W1.heap.size, 0, none⟩) 1 1) 1 (bytesV [caseU (howM B) s[k]]) := by { have := ownsRow_upd (F := fun _ => False) (own_one W1 (byteV (caseU (howM B) s[k])) 5) (Upd.refl _ _).drew (fun _ _ h => h); unfold byteV at this; rw [caseU_val] at this; rw [← hW2]; simpa [bytesV, byteV, caseU_val] using this }; clear hW2; refine hK _ _ (fun _ => hS) ?_; clear hK K
        (try simp only [Act.put, List.setIfInBounds_toArray, List.set_cons_zero, List.set_cons_succ])
        refine seq_loud (o := { dst := some 53, op := Op.convert 37 9 (Operand.tmp 52), type := 9, pos := "ref.go:36", after := #[{ on := 17, ground := Ground.data }], guard := none }) rfl (fun K hK => ?_)
        refine loud_val (by rfl) (exec_conv rfl rfl (conv_own ho2)) ?_; refine hK _ _ (fun _ => hS) ?_; clear hK K
        (try simp only [Act.put, List.setIfInBounds_toArray, List.set_cons_zero, List.set_cons_succ])
        (apply seq_val (o := { dst := some 54, op := Op.binOp BinOp.add 9 (Operand.tmp 46) (Operand.tmp 53) 9, type := 9, pos := "ref.go:36", after := #[{ on := 11, ground := Ground.data }, { on := 18, ground := Ground.data }], guard := none }) rfl (by rfl); (focus (intro w' hS'; have s0 := hS'.cell D0.out (fun h => h); have s1 := hS'.cell D1.out (fun h => h); go_simp; rw [if_neg (by simp [ByteArray.size]; omega)])); (focus exact hS))
        (try simp only [Act.put, List.setIfInBounds_toArray, List.set_cons_zero, List.set_cons_succ])
        refine seq_loud (o := { dst := some 55, op := Op.indexAddr 26 (Operand.tmp 38) (Operand.tmp 39), type := 0, pos := "ref.go:36", after := #[{ on := 3, ground := Ground.data }, { on := 4, ground := Ground.data }, { on := 0, ground := Ground.phase }, { on := 1, ground := Ground.phase }, { on := 2, ground := Ground.phase }, { on := 3, ground := Ground.phase }, { on := 4, ground := Ground.phase }, { on := 5, ground := Ground.phase }, { on := 6, ground := Ground.phase }, { on := 7, ground := Ground.phase }, { on := 8, ground := Ground.phase }, { on := 9, ground := Ground.phase }, { on := 10, ground := Ground.phase }, { on := 11, ground := Ground.phase }, { on := 12, ground := Ground.phase }, { on := 13, ground := Ground.phase }, { on := 14, ground := Ground.phase }, { on := 15, ground := Ground.phase }, { on := 16, ground := Ground.phase }, { on := 17, ground := Ground.phase }, { on := 18, ground := Ground.phase }, { on := 19, ground := Ground.phase }], guard := none }) rfl (fun K hK => ?_)
        go_simp; (try rw [if_pos (by omega)]); refine hK _ _ (fun _ => hS) ?_; clear hK K
        (try simp only [Act.put, List.setIfInBounds_toArray, List.set_cons_zero, List.set_cons_succ])
        refine seq_loud (o := { dst := none, op := Op.store 9 (Operand.tmp 55) (Operand.tmp 54), type := 0, pos := "ref.go:36", after := #[{ on := 20, ground := Ground.data }, { on := 19, ground := Ground.data }, { on := 16, ground := Ground.chain }, { on := 0, ground := Ground.phase }, { on := 1, ground := Ground.phase }, { on := 2, ground := Ground.phase }, { on := 3, ground := Ground.phase }, { on := 4, ground := Ground.phase }, { on := 5, ground := Ground.phase }, { on := 6, ground := Ground.phase }, { on := 7, ground := Ground.phase }, { on := 8, ground := Ground.phase }, { on := 9, ground := Ground.phase }, { on := 10, ground := Ground.phase }, { on := 11, ground := Ground.phase }, { on := 12, ground := Ground.phase }, { on := 13, ground := Ground.phase }, { on := 14, ground := Ground.phase }, { on := 15, ground := Ground.phase }, { on := 16, ground := Ground.phase }, { on := 17, ground := Ground.phase }, { on := 18, ground := Ground.phase }, { on := 19, ground := Ground.phase }], guard := none }) rfl (fun K hK => ?_)
        have s1 := hS.cell D1.out (fun h => h); have s2 : W2.frozen? ⟨g, n, none⟩ = false := ownsRow_free (ownsRow_upd HR1.out.hd hS (fun _ _ h => h)) rfl n; go_simp; refine hK _ _ (fun e => by cases e) ?_; clear hK K
        (try simp only [Act.put, List.setIfInBounds_toArray, List.set_cons_zero, List.set_cons_succ])
        refine seq_nil ?_
        go_wp2
        go_roundw
        case rel => exact ⟨k + 1, by omega, by go_num, by rw [Ht.out, Hs.out]; exact HR1.out.put Hyn.out hS hgb _ (by rw [bytes_cat, Hh.out]), HU1.out.then hS (fun _ _ h => h.elim) |>.setCell (p := ⟨g, n, none⟩) (fun _ => .inr rfl) _⟩
        case measure => simp [intOf]; omega
    · obtain rfl : k = s.size := by omega
      rw [List.take_of_length_le (by simp)] at hW
      go_wp2
      go_end0
      exact ⟨rfl, hW, hU.mono (fun k _ h => by rcases h with rfl | rfl; exact .inl rfl; exact .inr rfl)⟩
end Go.Proofs.Ytalgdihaeglleaa
