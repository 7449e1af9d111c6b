/- Lemmas that the law's proof stands on, part 31: StC, StRA. No condition. -/
import Derived.Test.YtigbfgmgdfnhcaaBaseA0
import Derived.Test.YtigbfgmgdfnhcaaBaseA30
set_option linter.all false
set_option linter.unusedVariables false
set_option linter.unusedSimpArgs false
namespace Go.Proofs.Ytigbfgmgdfnhcaa
open Go.RowKit
def zeroTry : TryD := ⟨0, 0, List.replicate 22 0, []⟩
theorem info_try : (Try.prog.info? 54).map (fun i => (i.zero, i.size, i.bytes)) = some (some (.agg (tryC zeroTry (.slice none 0 0))), 25, 216) := by kernel_rfl
theorem info_rtry : (Try.prog.info? 82).map (fun i => (i.zero, i.size, i.bytes)) = some (some (.agg (tryC zeroTry (.slice none 0 0))), 25, 216) := by kernel_rfl
/-- Tries as they lie in a row. -/
def triesC : List TryD → List Value → List Value
  | t :: ts, v :: vs => tryL t v ++ triesC ts vs
  | _, _ => []
theorem tryL_len {t : TryD} {v : Value} (h : t.slots.length = 22) : (tryL t v).length = 25 := by simp [tryL, h]
theorem triesC_len : ∀ (ts : List TryD) (vs : List Value), ts.length = vs.length → (∀ t, t ∈ ts → t.slots.length = 22) → (triesC ts vs).length = ts.length * 25
  | [], [], _, _ => rfl
  | [], _ :: _, h, _ => by simp at h
  | _ :: _, [], h, _ => by simp at h
  | t :: ts, v :: vs, h, hs => by
    have := triesC_len ts vs (by simpa using h) (fun t ht => hs t (List.mem_cons_of_mem _ ht))
    simp only [triesC, List.length_append, tryL_len (hs t List.mem_cons_self), this, List.length_cons]
    omega
theorem triesC_snoc : ∀ (ts : List TryD) (vs : List Value) (t : TryD) (v : Value), ts.length = vs.length → triesC (ts ++ [t]) (vs ++ [v]) = triesC ts vs ++ tryL t v
  | [], [], t, v, _ => by simp [triesC]
  | [], _ :: _, _, _, h => by simp at h
  | _ :: _, [], _, _, h => by simp at h
  | a :: ts, b :: vs, t, v, h => by
    have := triesC_snoc ts vs t v (by simpa using h)
    simp only [List.cons_append, triesC, this, List.append_assoc]
end Go.Proofs.Ytigbfgmgdfnhcaa
namespace Go.Proofs.Ytigbfgmgdfnhcaa
open Go.RowKit
set_option maxRecDepth 100000 in
set_option maxHeartbeats 8000000 in
theorem rstepA_any {w : World} (bM bT : Nat) (cv tv rv : Value) (r stp : Int) (fold : Bool) (s : ByteArray) (t : TryD) (i : InstD) (ho : i.op = 1 ∨ i.op = 2 ∨ i.op = 3) (ht : TryOK s.size t) (hpc : t.pc ≤ 1000000) (hs0 : s.size ≤ 140737488351232)
    (kM : w.heap[bM]? = some (.cells #[cv, .int .i64 r, .bool fold, .string s, tv, .int .i64 stp] 80 (0, 0))) (kT : w.heap[bT]? = some (.cells (tryC t rv) 82 (0, 0))) :
    Calls Try.prog 35 #[.pointer (some ⟨bM, 0, none⟩), .pointer (some ⟨bT, 0, none⟩), .agg (instC i).toArray] w (StepPost w bT 82 rv (stepT fold s.data.toList t i)) := by
  have HL : Hid (s.data.toList.length = s.size) := Lib.hid (by simp)
  have hU0 := Upd.refl (fun k => k = bT) w
  have hz := Nat.le_refl w.heap.size
  have HNE : Hid (bM ≠ bT) := Lib.hid (fun e => by rw [e, kT] at kM; simp at kM)
  have HT := Lib.hid ht
  have HM := Lib.hid kM
  have hp := ht.pos
  obtain ⟨E, hE⟩ : ∃ E, stepT fold s.data.toList t i = E := ⟨_, rfl⟩
  have HE : Hid ((if t.pos = s.size ∨ takesF fold i (bl s.data.toList t.pos) = false then none else some { t with pc := t.pc + 1, pos := t.pos + 1 }) = E) := Lib.hid (by rw [← hE]; unfold stepT; simp only []; rw [if_pos ho, HL.out])
  rw [hE]
  clear hE ht
  have HSZ := Lib.hid (fun k p => try_size { t with pc := k, pos := p } rv HT.out.sl)
  obtain ⟨pos, hP⟩ : ∃ pos, t.pos = pos := ⟨_, rfl⟩
  obtain ⟨pc, hPC⟩ : ∃ pc, t.pc = pc := ⟨_, rfl⟩
  have kT : w.heap[bT]? = some (.cells (tryC { t with pc := pc, pos := pos } rv) 82 (0, 0)) := by rw [← hP, ← hPC]; exact kT
  rw [hP] at hp HE
  rw [hPC] at hpc HE
  clear hP hPC
  have hbt := heap_lt kT
  have cP0 := cell_of kT 0 (try_pc { t with pc := pc, pos := pos } rv)
  unfold instC
  have cM := cells_of kM; (try simp only [instC, zzT, zzO, zzS] at cM); have fM := frees_of kM
  go_enter Try.func35, Try.ntmps35
  go_upto_region 2 with (first
    | (have _kk := cP0; ((with_reducible refine stopBx 63 _ rfl ?_); unfold Stop; refine wpList_box_blk rfl 63 _ rfl _ (by go_simp; first | done | exact rfl) #[.int .u8 i.op, .int .u8 i.c, .int .u64 i.set.a0, .int .u64 i.set.a1, .int .u64 i.set.a2, .int .u64 i.set.a3, .int .i64 i.x, .int .i64 i.y] rfl ?_; intro bI wn hbn kn hUn hsn; clear cM fM; have lMI := heap_lt kM; rw [hbn] at lMI; replace kM := hUn.heap kM (fun h => h); have gI : w.heap.size ≤ bI := Nat.le_trans hU0.size (Nat.le_of_eq hbn); have kI := kn; replace hU0 := hU0.then hUn (fun _ _ h => h.elim); replace hz : w.heap.size ≤ wn.heap.size := (by omega); replace kT := hUn.heap kT (fun h => h); replace cP0 := cell_of kT 0 (try_pc { t with pc := pc, pos := pos } rv); clear kn hUn hsn hbn; have cI := cells_of kI; (try simp only [instC, zzT, zzO, zzS] at cI); have fI := frees_of kI; have cM := cells_of kM; (try simp only [instC, zzT, zzO, zzS] at cM); have fM := frees_of kM); clear _kk)
    | ((with_reducible refine stopSt 3 _ _ rfl ?_); unfold Stop; refine wpList_store_blk rfl 3 _ _ rfl bT 0 rfl (.int .i64 ((pc + 1 : Nat) : Int)) (by go_simp; first | done | exact rfl | (congr 1; omega) | omega) (tryC { t with pc := pc, pos := pos } rv) (tryC { t with pc := pc + 1, pos := pos } rv) _ kT (by rw [HSZ.out]; exact (by decide : 0 + 1 ≤ 25)) (by kernel_rfl) rfl (try_set_pc { t with pc := pc, pos := pos } rv (pc + 1)) ?_; intro w1 k1 hu1 hs1))
  have kI1 := hu1.heap kI (fun (e : bI = bT) => by omega)
  have kM1 := hu1.heap kM HNE.out
  have HU1 := Lib.hid (hU0.then hu1 (fun _ _ h => h))
  clear cI fI cM fM kI kM hU0 hz hu1 hs1 cP0 kT
  have i0 := cell_of kI1 0 (v := .int .u8 i.op) rfl
  have i1 := cell_of kI1 1 (v := .int .u8 i.c) rfl
  have i2 := cell_of kI1 2 (v := .int .u64 i.set.a0) rfl
  have i3 := cell_of kI1 3 (v := .int .u64 i.set.a1) rfl
  have i4 := cell_of kI1 4 (v := .int .u64 i.set.a2) rfl
  have i5 := cell_of kI1 5 (v := .int .u64 i.set.a3) rfl
  have i6 := cell_of kI1 6 (v := .int .i64 i.x) rfl
  have i7 := cell_of kI1 7 (v := .int .i64 i.y) rfl
  have d3 := cell_of kM1 3 (v := .string s) rfl
  have m0 := cell_of kM1 0 (v := cv) rfl
  have m1 := cell_of kM1 1 (v := .int .i64 r) rfl
  have m2 := cell_of kM1 2 (v := .bool fold) rfl
  have cP1 := cell_of k1 1 (try_pos { t with pc := pc + 1, pos := pos } rv)
  have hbr := bl_rng s.data.toList pos
  have HTK : Hid (∀ w', From w1 w' → Calls Try.prog 51 #[.agg #[cv, .int .i64 r, .bool fold], .agg (instC i).toArray, .int .u8 (bl s.data.toList pos)] w' fun e w'' => e = .returned (.bool (takesF fold i (bl s.data.toList pos))) ∧ Upd (fun _ => False) w' w'') := Lib.hid (fun w' hC => rin_any ⟨[], r, fold⟩ cv i _ hbr.1 hbr.2 ho)
  clear hbr
  obtain ⟨B, hB⟩ : ∃ B, takesF fold i (bl s.data.toList pos) = B := ⟨_, rfl⟩
  rw [hB] at HTK HE
  clear hB
  unfold instC at HTK
  have HK1 := Lib.hid k1
  clear k1 kI1 kM1
  have HO : Hid ((i.op == 1) = true ∨ ((i.op == 1) = false ∧ (i.op == 2) = true) ∨ ((i.op == 1) = false ∧ (i.op == 2) = false ∧ (i.op == 3) = true)) := Lib.hid (by rcases ho with h | h | h <;> simp [h])
  clear ho
  rcases HO.out with h1 | ⟨h1, h2⟩ | ⟨h1, h2, h3⟩
  all_goals
    by_cases hend : pos = s.size
    · have HE2 : Hid (none = E) := Lib.hid (by rw [← HE.out, if_pos (.inl hend)])
      have e := HE2.out
      subst e
      have h9 : decide (s.size ≤ pos) = true := decide_eq_true (by omega)
      clear HE hend
      go_wp2
      first | (refine wq_region_from_still ?_) | (refine wq_region_from (by kernel_rfl) (by kernel_rfl) ?_)
      repeat
        first
          | ((refine WQ_skip (by rfl) ?_); (try simp only [Act.put, zzT, zzO, zzS]))
          | (apply WQ_val (by rfl); (focus (intro w' hC; (have e0 := From.cell hC d3; have n0 := From.cell hC m0; have n1 := From.cell hC m1; have n2 := From.cell hC m2; have e1 := From.cell hC cP1; have f0 := From.cell hC i0; have f1 := From.cell hC i1; have f2 := From.cell hC i2; have f3 := From.cell hC i3; have f4 := From.cell hC i4; have f5 := From.cell hC i5; have f6 := From.cell hC i6; have f7 := From.cell hC i7); go_simp; (first | done | exact rfl | (rw [if_pos (by omega)]; done) | (exact str_idx (by omega))))); (try simp only [Act.put, zzT, zzO, zzS]))
          | (apply WQ_call (by rfl); (focus (intro w' hC; go_simp; (first | done | exact rfl | exact ⟨rfl, rfl⟩))); (focus (intro w' hC; first | (with_reducible exact From.of_new hC (HTK.out _ hC)))); (try simp only [Act.put, zzT, zzO, zzS]))
      refine WQ_nil ?_
      intro wq hq
      go_wp2
      go_ret
      exact ⟨rfl, HU1.out.then (upd_from hq) (fun _ _ h => h.elim)⟩
    · have h9 : decide (s.size ≤ pos) = false := decide_eq_false (by omega)
      have hlt : pos < s.size := by omega
      have HTK := Lib.hid HTK.out
      rw [← bl_at hlt] at HTK
      cases B
      · have HE2 : Hid (none = E) := Lib.hid (by rw [← HE.out, if_pos (.inr rfl)])
        have e := HE2.out
        subst e
        clear HE
        go_wp2
        first | (refine wq_region_from_still ?_) | (refine wq_region_from (by kernel_rfl) (by kernel_rfl) ?_)
        repeat
          first
            | ((refine WQ_skip (by rfl) ?_); (try simp only [Act.put, zzT, zzO, zzS]))
            | (apply WQ_val (by rfl); (focus (intro w' hC; (have e0 := From.cell hC d3; have n0 := From.cell hC m0; have n1 := From.cell hC m1; have n2 := From.cell hC m2; have e1 := From.cell hC cP1; have f0 := From.cell hC i0; have f1 := From.cell hC i1; have f2 := From.cell hC i2; have f3 := From.cell hC i3; have f4 := From.cell hC i4; have f5 := From.cell hC i5; have f6 := From.cell hC i6; have f7 := From.cell hC i7); go_simp; (first | done | exact rfl | (rw [if_pos (by omega)]; done) | (exact str_idx (by omega))))); (try simp only [Act.put, zzT, zzO, zzS]))
            | (apply WQ_call (by rfl); (focus (intro w' hC; go_simp; (first | done | exact rfl | exact ⟨rfl, rfl⟩))); (focus (intro w' hC; first | (with_reducible exact From.of_new hC (HTK.out _ hC)))); (try simp only [Act.put, zzT, zzO, zzS]))
        refine WQ_nil ?_
        intro wq hq
        go_wp2
        go_ret
        exact ⟨rfl, HU1.out.then (upd_from hq) (fun _ _ h => h.elim)⟩
      · have HE2 : Hid (some { t with pc := pc + 1, pos := pos + 1 } = E) := Lib.hid (by rw [← HE.out, if_neg (by rintro (h | h); exact hend h; cases h)])
        have e := HE2.out
        subst e
        clear HE
        go_wp2
        first | (refine wq_region_from_still ?_) | (refine wq_region_from (by kernel_rfl) (by kernel_rfl) ?_)
        repeat
          first
            | ((refine WQ_skip (by rfl) ?_); (try simp only [Act.put, zzT, zzO, zzS]))
            | (apply WQ_val (by rfl); (focus (intro w' hC; (have e0 := From.cell hC d3; have n0 := From.cell hC m0; have n1 := From.cell hC m1; have n2 := From.cell hC m2; have e1 := From.cell hC cP1; have f0 := From.cell hC i0; have f1 := From.cell hC i1; have f2 := From.cell hC i2; have f3 := From.cell hC i3; have f4 := From.cell hC i4; have f5 := From.cell hC i5; have f6 := From.cell hC i6; have f7 := From.cell hC i7); go_simp; (first | done | exact rfl | (rw [if_pos (by omega)]; done) | (exact str_idx (by omega))))); (try simp only [Act.put, zzT, zzO, zzS]))
            | (apply WQ_call (by rfl); (focus (intro w' hC; go_simp; (first | done | exact rfl | exact ⟨rfl, rfl⟩))); (focus (intro w' hC; first | (with_reducible exact From.of_new hC (HTK.out _ hC)))); (try simp only [Act.put, zzT, zzO, zzS]))
        refine WQ_nil ?_
        intro wq hq
        have kT := (upd_from hq).heap HK1.out (fun h => h)
        have fT := frees_of kT
        have cP2 := From.cell hq cP1
        have HU2 := Lib.hid (HU1.out.then (upd_from hq) (fun _ _ h => h.elim))
        clear hq
        go_wp2_with (first | ((with_reducible refine stopSt 3 _ _ rfl ?_); unfold Stop; refine wpList_store_blk rfl 3 _ _ rfl bT 1 rfl (.int .i64 ((pos + 1 : Nat) : Int)) (by go_simp; first | done | exact rfl | (congr 1; omega) | omega) (tryC { t with pc := pc + 1, pos := pos } rv) (tryC { t with pc := pc + 1, pos := pos + 1 } rv) _ kT (by rw [HSZ.out]; exact (by decide : 1 + 1 ≤ 25)) (by kernel_rfl) rfl (try_set_pos { t with pc := pc + 1, pos := pos } rv (pos + 1)) ?_; intro w9 k9 hu9 hs9))
        go_ret
        exact ⟨rfl, k9, HU2.out.then hu9 (fun _ _ h => h)⟩
end Go.Proofs.Ytigbfgmgdfnhcaa
