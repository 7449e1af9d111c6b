/- Lemmas that the law's proof stands on, part 33: StRL, SplA. No condition. -/
import Derived.Test.YtigbfgmgdfnhcaaBaseA0
import Derived.Test.YtigbfgmgdfnhcaaBaseA32
set_option linter.all false
set_option linter.unusedVariables false
set_option linter.unusedSimpArgs false
namespace Go.Proofs.Ytigbfgmgdfnhcaa
open Go.RowKit
set_option maxRecDepth 100000 in
set_option maxHeartbeats 8000000 in
theorem rstepL8_any {w : World} (bM bT : Nat) (cv tv rv : Value) (r stp : Int) (fold : Bool) (s : ByteArray) (t : TryD) (i : InstD) (ho : i.op = 8) (ht : TryOK s.size t) (hpc : t.pc ≤ 1000000) (hs0 : s.size ≤ 140737488351232)
    (kM : w.heap[bM]? = some (.cells #[cv, .int .i64 r, .bool fold, .string s, tv, .int .i64 stp] 80 (0, 0))) (kT : w.heap[bT]? = some (.cells (tryC t rv) 82 (0, 0))) :
    Calls Try.prog 35 #[.pointer (some ⟨bM, 0, none⟩), .pointer (some ⟨bT, 0, none⟩), .agg (instC i).toArray] w (StepPost w bT 82 rv (stepT fold s.data.toList t i)) := by
  have HL : Hid (s.data.toList.length = s.size) := Lib.hid (by simp)
  have hU0 := Upd.refl (fun k => k = bT) w
  have hz := Nat.le_refl w.heap.size
  have HNE : Hid (bM ≠ bT) := Lib.hid (fun e => by rw [e, kT] at kM; simp at kM)
  have HT := Lib.hid ht
  have HM := Lib.hid kM
  have hp := ht.pos
  obtain ⟨E, hE⟩ : ∃ E, stepT fold s.data.toList t i = E := ⟨_, rfl⟩
  have HE : Hid ((if (t.pos == 0) = true then some { t with pc := t.pc + 1, pos := t.pos } else none) = E) := Lib.hid (by rw [← hE]; unfold stepT; simp only []; rw [if_neg (show ¬ (i.op = 1 ∨ i.op = 2 ∨ i.op = 3) by omega), if_neg (show ¬ i.op = 5 by omega), if_neg (show ¬ i.op = 6 by omega), if_neg (show ¬ i.op = 7 by omega), if_neg (show ¬ i.op = 13 by omega), ho]; rfl)
  have HO := Lib.hid ho
  rw [hE]
  clear hE ht ho
  have HSZ := Lib.hid (fun k p => try_size { t with pc := k, pos := p } rv HT.out.sl)
  obtain ⟨pos, hP⟩ : ∃ pos, t.pos = pos := ⟨_, rfl⟩
  obtain ⟨pc, hPC⟩ : ∃ pc, t.pc = pc := ⟨_, rfl⟩
  have kT : w.heap[bT]? = some (.cells (tryC { t with pc := pc, pos := pos } rv) 82 (0, 0)) := by rw [← hP, ← hPC]; exact kT
  rw [hP] at hp
  try rw [hP] at HE
  rw [hPC] at hpc
  try rw [hPC] at HE
  clear hP hPC
  have hbt := heap_lt kT
  have cP0 := cell_of kT 0 (try_pc { t with pc := pc, pos := pos } rv)
  unfold instC
  have cM := cells_of kM; (try simp only [instC, zzT, zzO, zzS] at cM); have fM := frees_of kM
  go_enter Try.func35, Try.ntmps35
  go_upto_region 2 with (first
    | (have _kk := cP0; ((with_reducible refine stopBx 63 _ rfl ?_); unfold Stop; refine wpList_box_blk rfl 63 _ rfl _ (by go_simp; first | done | exact rfl) #[.int .u8 i.op, .int .u8 i.c, .int .u64 i.set.a0, .int .u64 i.set.a1, .int .u64 i.set.a2, .int .u64 i.set.a3, .int .i64 i.x, .int .i64 i.y] rfl ?_; intro bI wn hbn kn hUn hsn; clear cM fM; have lMI := heap_lt kM; rw [hbn] at lMI; replace kM := hUn.heap kM (fun h => h); have gI : w.heap.size ≤ bI := Nat.le_trans hU0.size (Nat.le_of_eq hbn); have kI := kn; replace hU0 := hU0.then hUn (fun _ _ h => h.elim); replace hz : w.heap.size ≤ wn.heap.size := (by omega); replace kT := hUn.heap kT (fun h => h); replace cP0 := cell_of kT 0 (try_pc { t with pc := pc, pos := pos } rv); clear kn hUn hsn hbn; have cI := cells_of kI; (try simp only [instC, zzT, zzO, zzS] at cI); have fI := frees_of kI; have cM := cells_of kM; (try simp only [instC, zzT, zzO, zzS] at cM); have fM := frees_of kM); clear _kk)
    | ((with_reducible refine stopSt 3 _ _ rfl ?_); unfold Stop; refine wpList_store_blk rfl 3 _ _ rfl bT 0 rfl (.int .i64 ((pc + 1 : Nat) : Int)) (by go_simp; first | done | exact rfl | (congr 1; omega) | omega) (tryC { t with pc := pc, pos := pos } rv) (tryC { t with pc := pc + 1, pos := pos } rv) _ kT (by rw [HSZ.out]; exact (by decide : 0 + 1 ≤ 25)) (by kernel_rfl) rfl (try_set_pc { t with pc := pc, pos := pos } rv (pc + 1)) ?_; intro w1 k1 hu1 hs1))
  have kI1 := hu1.heap kI (fun (e : bI = bT) => by omega)
  have kM1 := hu1.heap kM HNE.out
  have HU1 := Lib.hid (hU0.then hu1 (fun _ _ h => h))
  clear cI fI cM fM kI kM hU0 hz hu1 hs1 cP0 kT
  have i0 := cell_of kI1 0 (v := .int .u8 i.op) rfl
  have i1 := cell_of kI1 1 (v := .int .u8 i.c) rfl
  have i2 := cell_of kI1 2 (v := .int .u64 i.set.a0) rfl
  have i3 := cell_of kI1 3 (v := .int .u64 i.set.a1) rfl
  have i4 := cell_of kI1 4 (v := .int .u64 i.set.a2) rfl
  have i5 := cell_of kI1 5 (v := .int .u64 i.set.a3) rfl
  have i6 := cell_of kI1 6 (v := .int .i64 i.x) rfl
  have i7 := cell_of kI1 7 (v := .int .i64 i.y) rfl
  have d3 := cell_of kM1 3 (v := .string s) rfl
  have m0 := cell_of kM1 0 (v := cv) rfl
  have m1 := cell_of kM1 1 (v := .int .i64 r) rfl
  have m2 := cell_of kM1 2 (v := .bool fold) rfl
  have cP1 := cell_of k1 1 (try_pos { t with pc := pc + 1, pos := pos } rv)
  have h1 : (i.op == 1) = false := by simp [HO.out]
  have h2 : (i.op == 2) = false := by simp [HO.out]
  have h3 : (i.op == 3) = false := by simp [HO.out]
  have h4 : (i.op == 4) = false := by simp [HO.out]
  have h5 : (i.op == 5) = false := by simp [HO.out]
  have h6 : (i.op == 6) = false := by simp [HO.out]
  have h7 : (i.op == 7) = false := by simp [HO.out]
  have h8 : (i.op == 8) = true := by simp [HO.out]
  have HK1 := Lib.hid k1
  go_wp2
  go_ret
  have e := HE.out
  subst e
  by_cases hB : pos = 0
  · rw [if_pos (by simpa using hB)]
    exact ⟨ret_bool (by first | (simp_all; done) | (simp_all; omega) | (simp [hB]; done)), HK1.out, HU1.out⟩
  · rw [if_neg (by simpa using hB)]
    exact ⟨ret_bool (by first | (simp_all; done) | (simp_all; omega) | (simp [hB]; omega)), HU1.out⟩
set_option maxRecDepth 100000 in
set_option maxHeartbeats 8000000 in
theorem rstepL9_any {w : World} (bM bT : Nat) (cv tv rv : Value) (r stp : Int) (fold : Bool) (s : ByteArray) (t : TryD) (i : InstD) (ho : i.op = 9) (ht : TryOK s.size t) (hpc : t.pc ≤ 1000000) (hs0 : s.size ≤ 140737488351232)
    (kM : w.heap[bM]? = some (.cells #[cv, .int .i64 r, .bool fold, .string s, tv, .int .i64 stp] 80 (0, 0))) (kT : w.heap[bT]? = some (.cells (tryC t rv) 82 (0, 0))) :
    Calls Try.prog 35 #[.pointer (some ⟨bM, 0, none⟩), .pointer (some ⟨bT, 0, none⟩), .agg (instC i).toArray] w (StepPost w bT 82 rv (stepT fold s.data.toList t i)) := by
  have HL : Hid (s.data.toList.length = s.size) := Lib.hid (by simp)
  have hU0 := Upd.refl (fun k => k = bT) w
  have hz := Nat.le_refl w.heap.size
  have HNE : Hid (bM ≠ bT) := Lib.hid (fun e => by rw [e, kT] at kM; simp at kM)
  have HT := Lib.hid ht
  have HM := Lib.hid kM
  have hp := ht.pos
  obtain ⟨E, hE⟩ : ∃ E, stepT fold s.data.toList t i = E := ⟨_, rfl⟩
  have HE : Hid ((if (t.pos == s.data.toList.length) = true then some { t with pc := t.pc + 1, pos := t.pos } else none) = E) := Lib.hid (by rw [← hE]; unfold stepT; simp only []; rw [if_neg (show ¬ (i.op = 1 ∨ i.op = 2 ∨ i.op = 3) by omega), if_neg (show ¬ i.op = 5 by omega), if_neg (show ¬ i.op = 6 by omega), if_neg (show ¬ i.op = 7 by omega), if_neg (show ¬ i.op = 13 by omega), ho]; rfl)
  have HO := Lib.hid ho
  rw [hE]
  clear hE ht ho
  have HSZ := Lib.hid (fun k p => try_size { t with pc := k, pos := p } rv HT.out.sl)
  obtain ⟨pos, hP⟩ : ∃ pos, t.pos = pos := ⟨_, rfl⟩
  obtain ⟨pc, hPC⟩ : ∃ pc, t.pc = pc := ⟨_, rfl⟩
  have kT : w.heap[bT]? = some (.cells (tryC { t with pc := pc, pos := pos } rv) 82 (0, 0)) := by rw [← hP, ← hPC]; exact kT
  rw [hP] at hp
  try rw [hP] at HE
  rw [hPC] at hpc
  try rw [hPC] at HE
  clear hP hPC
  have hbt := heap_lt kT
  have cP0 := cell_of kT 0 (try_pc { t with pc := pc, pos := pos } rv)
  unfold instC
  have cM := cells_of kM; (try simp only [instC, zzT, zzO, zzS] at cM); have fM := frees_of kM
  go_enter Try.func35, Try.ntmps35
  go_upto_region 2 with (first
    | (have _kk := cP0; ((with_reducible refine stopBx 63 _ rfl ?_); unfold Stop; refine wpList_box_blk rfl 63 _ rfl _ (by go_simp; first | done | exact rfl) #[.int .u8 i.op, .int .u8 i.c, .int .u64 i.set.a0, .int .u64 i.set.a1, .int .u64 i.set.a2, .int .u64 i.set.a3, .int .i64 i.x, .int .i64 i.y] rfl ?_; intro bI wn hbn kn hUn hsn; clear cM fM; have lMI := heap_lt kM; rw [hbn] at lMI; replace kM := hUn.heap kM (fun h => h); have gI : w.heap.size ≤ bI := Nat.le_trans hU0.size (Nat.le_of_eq hbn); have kI := kn; replace hU0 := hU0.then hUn (fun _ _ h => h.elim); replace hz : w.heap.size ≤ wn.heap.size := (by omega); replace kT := hUn.heap kT (fun h => h); replace cP0 := cell_of kT 0 (try_pc { t with pc := pc, pos := pos } rv); clear kn hUn hsn hbn; have cI := cells_of kI; (try simp only [instC, zzT, zzO, zzS] at cI); have fI := frees_of kI; have cM := cells_of kM; (try simp only [instC, zzT, zzO, zzS] at cM); have fM := frees_of kM); clear _kk)
    | ((with_reducible refine stopSt 3 _ _ rfl ?_); unfold Stop; refine wpList_store_blk rfl 3 _ _ rfl bT 0 rfl (.int .i64 ((pc + 1 : Nat) : Int)) (by go_simp; first | done | exact rfl | (congr 1; omega) | omega) (tryC { t with pc := pc, pos := pos } rv) (tryC { t with pc := pc + 1, pos := pos } rv) _ kT (by rw [HSZ.out]; exact (by decide : 0 + 1 ≤ 25)) (by kernel_rfl) rfl (try_set_pc { t with pc := pc, pos := pos } rv (pc + 1)) ?_; intro w1 k1 hu1 hs1))
  have kI1 := hu1.heap kI (fun (e : bI = bT) => by omega)
  have kM1 := hu1.heap kM HNE.out
  have HU1 := Lib.hid (hU0.then hu1 (fun _ _ h => h))
  clear cI fI cM fM kI kM hU0 hz hu1 hs1 cP0 kT
  have i0 := cell_of kI1 0 (v := .int .u8 i.op) rfl
  have i1 := cell_of kI1 1 (v := .int .u8 i.c) rfl
  have i2 := cell_of kI1 2 (v := .int .u64 i.set.a0) rfl
  have i3 := cell_of kI1 3 (v := .int .u64 i.set.a1) rfl
  have i4 := cell_of kI1 4 (v := .int .u64 i.set.a2) rfl
  have i5 := cell_of kI1 5 (v := .int .u64 i.set.a3) rfl
  have i6 := cell_of kI1 6 (v := .int .i64 i.x) rfl
  have i7 := cell_of kI1 7 (v := .int .i64 i.y) rfl
  have d3 := cell_of kM1 3 (v := .string s) rfl
  have m0 := cell_of kM1 0 (v := cv) rfl
  have m1 := cell_of kM1 1 (v := .int .i64 r) rfl
  have m2 := cell_of kM1 2 (v := .bool fold) rfl
  have cP1 := cell_of k1 1 (try_pos { t with pc := pc + 1, pos := pos } rv)
  have h1 : (i.op == 1) = false := by simp [HO.out]
  have h2 : (i.op == 2) = false := by simp [HO.out]
  have h3 : (i.op == 3) = false := by simp [HO.out]
  have h4 : (i.op == 4) = false := by simp [HO.out]
  have h5 : (i.op == 5) = false := by simp [HO.out]
  have h6 : (i.op == 6) = false := by simp [HO.out]
  have h7 : (i.op == 7) = false := by simp [HO.out]
  have h8 : (i.op == 8) = false := by simp [HO.out]
  have h9 : (i.op == 9) = true := by simp [HO.out]
  have HK1 := Lib.hid k1
  rw [HL.out] at HE
  go_wp2
  first | (refine wq_region_from_still ?_) | (refine wq_region_from (by kernel_rfl) (by kernel_rfl) ?_)
  repeat
    first
      | ((refine WQ_skip (by rfl) ?_); (try simp only [Act.put, zzT, zzO, zzS]))
      | (apply WQ_val (by rfl); (focus (intro w' hC; (have e0 := From.cell hC d3; have e1 := From.cell hC cP1); go_simp; (first | done | exact rfl | (rw [if_pos (by omega)]; done) | (exact str_idx (by omega))))); (try simp only [Act.put, zzT, zzO, zzS]))
      | (apply WQ_call (by rfl); (focus (intro w' hC; go_simp; (first | done | exact rfl | exact ⟨rfl, rfl⟩))); (focus (intro w' hC; first | fail)); (try simp only [Act.put, zzT, zzO, zzS]))
  refine WQ_nil ?_
  intro wq hq
  go_wp2
  go_ret
  have e := HE.out
  subst e
  by_cases hB : pos = s.size
  · rw [if_pos (by simpa using hB)]
    exact ⟨ret_bool (by first | (simp_all; done) | (simp_all; omega) | (simp [hB]; done)), (upd_from hq).heap HK1.out (fun h => h), HU1.out.then (upd_from hq) (fun _ _ h => h.elim)⟩
  · rw [if_neg (by simpa using hB)]
    exact ⟨ret_bool (by first | (simp_all; done) | (simp_all; omega) | (simp [hB]; omega)), HU1.out.then (upd_from hq) (fun _ _ h => h.elim)⟩
set_option maxRecDepth 100000 in
set_option maxHeartbeats 8000000 in
theorem rstepL10_any {w : World} (bM bT : Nat) (cv tv rv : Value) (r stp : Int) (fold : Bool) (s : ByteArray) (t : TryD) (i : InstD) (ho : i.op = 10) (ht : TryOK s.size t) (hpc : t.pc ≤ 1000000) (hs0 : s.size ≤ 140737488351232)
    (kM : w.heap[bM]? = some (.cells #[cv, .int .i64 r, .bool fold, .string s, tv, .int .i64 stp] 80 (0, 0))) (kT : w.heap[bT]? = some (.cells (tryC t rv) 82 (0, 0))) :
    Calls Try.prog 35 #[.pointer (some ⟨bM, 0, none⟩), .pointer (some ⟨bT, 0, none⟩), .agg (instC i).toArray] w (StepPost w bT 82 rv (stepT fold s.data.toList t i)) := by
  have HL : Hid (s.data.toList.length = s.size) := Lib.hid (by simp)
  have hU0 := Upd.refl (fun k => k = bT) w
  have hz := Nat.le_refl w.heap.size
  have HNE : Hid (bM ≠ bT) := Lib.hid (fun e => by rw [e, kT] at kM; simp at kM)
  have HT := Lib.hid ht
  have HM := Lib.hid kM
  have hp := ht.pos
  obtain ⟨E, hE⟩ : ∃ E, stepT fold s.data.toList t i = E := ⟨_, rfl⟩
  have HE : Hid ((if (wordAt s.data.toList (t.pos : Int) && !wordAt s.data.toList ((t.pos : Int) - 1)) = true then some { t with pc := t.pc + 1, pos := t.pos } else none) = E) := Lib.hid (by rw [← hE]; unfold stepT; simp only []; rw [if_neg (show ¬ (i.op = 1 ∨ i.op = 2 ∨ i.op = 3) by omega), if_neg (show ¬ i.op = 5 by omega), if_neg (show ¬ i.op = 6 by omega), if_neg (show ¬ i.op = 7 by omega), if_neg (show ¬ i.op = 13 by omega), ho]; rfl)
  have HO := Lib.hid ho
  rw [hE]
  clear hE ht ho
  have HSZ := Lib.hid (fun k p => try_size { t with pc := k, pos := p } rv HT.out.sl)
  obtain ⟨pos, hP⟩ : ∃ pos, t.pos = pos := ⟨_, rfl⟩
  obtain ⟨pc, hPC⟩ : ∃ pc, t.pc = pc := ⟨_, rfl⟩
  have kT : w.heap[bT]? = some (.cells (tryC { t with pc := pc, pos := pos } rv) 82 (0, 0)) := by rw [← hP, ← hPC]; exact kT
  rw [hP] at hp
  try rw [hP] at HE
  rw [hPC] at hpc
  try rw [hPC] at HE
  clear hP hPC
  have hbt := heap_lt kT
  have cP0 := cell_of kT 0 (try_pc { t with pc := pc, pos := pos } rv)
  unfold instC
  have cM := cells_of kM; (try simp only [instC, zzT, zzO, zzS] at cM); have fM := frees_of kM
  go_enter Try.func35, Try.ntmps35
  go_upto_region 2 with (first
    | (have _kk := cP0; ((with_reducible refine stopBx 63 _ rfl ?_); unfold Stop; refine wpList_box_blk rfl 63 _ rfl _ (by go_simp; first | done | exact rfl) #[.int .u8 i.op, .int .u8 i.c, .int .u64 i.set.a0, .int .u64 i.set.a1, .int .u64 i.set.a2, .int .u64 i.set.a3, .int .i64 i.x, .int .i64 i.y] rfl ?_; intro bI wn hbn kn hUn hsn; clear cM fM; have lMI := heap_lt kM; rw [hbn] at lMI; replace kM := hUn.heap kM (fun h => h); have gI : w.heap.size ≤ bI := Nat.le_trans hU0.size (Nat.le_of_eq hbn); have kI := kn; replace hU0 := hU0.then hUn (fun _ _ h => h.elim); replace hz : w.heap.size ≤ wn.heap.size := (by omega); replace kT := hUn.heap kT (fun h => h); replace cP0 := cell_of kT 0 (try_pc { t with pc := pc, pos := pos } rv); clear kn hUn hsn hbn; have cI := cells_of kI; (try simp only [instC, zzT, zzO, zzS] at cI); have fI := frees_of kI; have cM := cells_of kM; (try simp only [instC, zzT, zzO, zzS] at cM); have fM := frees_of kM); clear _kk)
    | ((with_reducible refine stopSt 3 _ _ rfl ?_); unfold Stop; refine wpList_store_blk rfl 3 _ _ rfl bT 0 rfl (.int .i64 ((pc + 1 : Nat) : Int)) (by go_simp; first | done | exact rfl | (congr 1; omega) | omega) (tryC { t with pc := pc, pos := pos } rv) (tryC { t with pc := pc + 1, pos := pos } rv) _ kT (by rw [HSZ.out]; exact (by decide : 0 + 1 ≤ 25)) (by kernel_rfl) rfl (try_set_pc { t with pc := pc, pos := pos } rv (pc + 1)) ?_; intro w1 k1 hu1 hs1))
  have kI1 := hu1.heap kI (fun (e : bI = bT) => by omega)
  have kM1 := hu1.heap kM HNE.out
  have HU1 := Lib.hid (hU0.then hu1 (fun _ _ h => h))
  clear cI fI cM fM kI kM hU0 hz hu1 hs1 cP0 kT
  have i0 := cell_of kI1 0 (v := .int .u8 i.op) rfl
  have i1 := cell_of kI1 1 (v := .int .u8 i.c) rfl
  have i2 := cell_of kI1 2 (v := .int .u64 i.set.a0) rfl
  have i3 := cell_of kI1 3 (v := .int .u64 i.set.a1) rfl
  have i4 := cell_of kI1 4 (v := .int .u64 i.set.a2) rfl
  have i5 := cell_of kI1 5 (v := .int .u64 i.set.a3) rfl
  have i6 := cell_of kI1 6 (v := .int .i64 i.x) rfl
  have i7 := cell_of kI1 7 (v := .int .i64 i.y) rfl
  have d3 := cell_of kM1 3 (v := .string s) rfl
  have m0 := cell_of kM1 0 (v := cv) rfl
  have m1 := cell_of kM1 1 (v := .int .i64 r) rfl
  have m2 := cell_of kM1 2 (v := .bool fold) rfl
  have cP1 := cell_of k1 1 (try_pos { t with pc := pc + 1, pos := pos } rv)
  have h1 : (i.op == 1) = false := by simp [HO.out]
  have h2 : (i.op == 2) = false := by simp [HO.out]
  have h3 : (i.op == 3) = false := by simp [HO.out]
  have h4 : (i.op == 4) = false := by simp [HO.out]
  have h5 : (i.op == 5) = false := by simp [HO.out]
  have h6 : (i.op == 6) = false := by simp [HO.out]
  have h7 : (i.op == 7) = false := by simp [HO.out]
  have h8 : (i.op == 8) = false := by simp [HO.out]
  have h9 : (i.op == 9) = false := by simp [HO.out]
  have h10 : (i.op == 10) = true := by simp [HO.out]
  have HK1 := Lib.hid k1
  have HWA := Lib.hid (fun w => rword_any (w := w) s (pos : Int))
  have HWB := Lib.hid (fun w => rword_any (w := w) s ((pos : Int) - 1))
  obtain ⟨A, hA⟩ : ∃ A, wordAt s.data.toList (pos : Int) = A := ⟨_, rfl⟩
  obtain ⟨B, hB⟩ : ∃ B, wordAt s.data.toList ((pos : Int) - 1) = B := ⟨_, rfl⟩
  rw [hA] at HWA HE
  rw [hB] at HWB HE
  clear hA hB
  have hsub : IntKind.i64.wrap ((pos : Int) - 1) = (pos : Int) - 1 := by unfold IntKind.wrap; simp [IntKind.signed, IntKind.bits]; omega
  have e := HE.out
  subst e
  cases A <;> cases B
  · go_wp2
    first | (refine wq_region_from_still ?_) | (refine wq_region_from (by kernel_rfl) (by kernel_rfl) ?_)
    repeat
      first
        | ((refine WQ_skip (by rfl) ?_); (try simp only [Act.put, zzT, zzO, zzS]))
        | (apply WQ_val (by rfl); (focus (intro w' hC; (have e0 := From.cell hC d3; have e1 := From.cell hC cP1); go_simp; (first | done | exact rfl | (rw [if_pos (by omega)]; done) | (exact str_idx (by omega))))); (try simp only [Act.put, zzT, zzO, zzS]))
        | (apply WQ_call (by rfl); (focus (intro w' hC; go_simp; (first | done | exact rfl | exact ⟨rfl, rfl⟩))); (focus (intro w' hC; first | (with_reducible exact From.of_same hC (HWA.out _)) | (with_reducible exact From.of_same hC (HWB.out _)))); (try simp only [Act.put, zzT, zzO, zzS]))
    refine WQ_nil ?_
    intro wq hq
    go_wp2
    go_ret
    exact ⟨rfl, HU1.out.then (upd_from hq) (fun _ _ h => h.elim)⟩
  · go_wp2
    first | (refine wq_region_from_still ?_) | (refine wq_region_from (by kernel_rfl) (by kernel_rfl) ?_)
    repeat
      first
        | ((refine WQ_skip (by rfl) ?_); (try simp only [Act.put, zzT, zzO, zzS]))
        | (apply WQ_val (by rfl); (focus (intro w' hC; (have e0 := From.cell hC d3; have e1 := From.cell hC cP1); go_simp; (first | done | exact rfl | (rw [if_pos (by omega)]; done) | (exact str_idx (by omega))))); (try simp only [Act.put, zzT, zzO, zzS]))
        | (apply WQ_call (by rfl); (focus (intro w' hC; go_simp; (first | done | exact rfl | exact ⟨rfl, rfl⟩))); (focus (intro w' hC; first | (with_reducible exact From.of_same hC (HWA.out _)) | (with_reducible exact From.of_same hC (HWB.out _)))); (try simp only [Act.put, zzT, zzO, zzS]))
    refine WQ_nil ?_
    intro wq hq
    go_wp2
    go_ret
    exact ⟨rfl, HU1.out.then (upd_from hq) (fun _ _ h => h.elim)⟩
  · go_wp2
    first | (refine wq_region_from_still ?_) | (refine wq_region_from (by kernel_rfl) (by kernel_rfl) ?_)
    repeat
      first
        | ((refine WQ_skip (by rfl) ?_); (try simp only [Act.put, zzT, zzO, zzS]))
        | (apply WQ_val (by rfl); (focus (intro w' hC; (have e0 := From.cell hC d3; have e1 := From.cell hC cP1); go_simp; (first | done | exact rfl | (rw [if_pos (by omega)]; done) | (exact str_idx (by omega))))); (try simp only [Act.put, zzT, zzO, zzS]))
        | (apply WQ_call (by rfl); (focus (intro w' hC; go_simp; (first | done | exact rfl | exact ⟨rfl, rfl⟩))); (focus (intro w' hC; first | (with_reducible exact From.of_same hC (HWA.out _)) | (with_reducible exact From.of_same hC (HWB.out _)))); (try simp only [Act.put, zzT, zzO, zzS]))
    refine WQ_nil ?_
    intro wq hq
    go_wp2
    go_ret
    exact ⟨rfl, (upd_from hq).heap HK1.out (fun h => h), HU1.out.then (upd_from hq) (fun _ _ h => h.elim)⟩
  · go_wp2
    first | (refine wq_region_from_still ?_) | (refine wq_region_from (by kernel_rfl) (by kernel_rfl) ?_)
    repeat
      first
        | ((refine WQ_skip (by rfl) ?_); (try simp only [Act.put, zzT, zzO, zzS]))
        | (apply WQ_val (by rfl); (focus (intro w' hC; (have e0 := From.cell hC d3; have e1 := From.cell hC cP1); go_simp; (first | done | exact rfl | (rw [if_pos (by omega)]; done) | (exact str_idx (by omega))))); (try simp only [Act.put, zzT, zzO, zzS]))
        | (apply WQ_call (by rfl); (focus (intro w' hC; go_simp; (first | done | exact rfl | exact ⟨rfl, rfl⟩))); (focus (intro w' hC; first | (with_reducible exact From.of_same hC (HWA.out _)) | (with_reducible exact From.of_same hC (HWB.out _)))); (try simp only [Act.put, zzT, zzO, zzS]))
    refine WQ_nil ?_
    intro wq hq
    go_wp2
    go_ret
    exact ⟨rfl, HU1.out.then (upd_from hq) (fun _ _ h => h.elim)⟩
set_option maxRecDepth 100000 in
set_option maxHeartbeats 8000000 in
theorem rstepL11_any {w : World} (bM bT : Nat) (cv tv rv : Value) (r stp : Int) (fold : Bool) (s : ByteArray) (t : TryD) (i : InstD) (ho : i.op = 11) (ht : TryOK s.size t) (hpc : t.pc ≤ 1000000) (hs0 : s.size ≤ 140737488351232)
    (kM : w.heap[bM]? = some (.cells #[cv, .int .i64 r, .bool fold, .string s, tv, .int .i64 stp] 80 (0, 0))) (kT : w.heap[bT]? = some (.cells (tryC t rv) 82 (0, 0))) :
    Calls Try.prog 35 #[.pointer (some ⟨bM, 0, none⟩), .pointer (some ⟨bT, 0, none⟩), .agg (instC i).toArray] w (StepPost w bT 82 rv (stepT fold s.data.toList t i)) := by
  have HL : Hid (s.data.toList.length = s.size) := Lib.hid (by simp)
  have hU0 := Upd.refl (fun k => k = bT) w
  have hz := Nat.le_refl w.heap.size
  have HNE : Hid (bM ≠ bT) := Lib.hid (fun e => by rw [e, kT] at kM; simp at kM)
  have HT := Lib.hid ht
  have HM := Lib.hid kM
  have hp := ht.pos
  obtain ⟨E, hE⟩ : ∃ E, stepT fold s.data.toList t i = E := ⟨_, rfl⟩
  have HE : Hid ((if (wordAt s.data.toList ((t.pos : Int) - 1) && !wordAt s.data.toList (t.pos : Int)) = true then some { t with pc := t.pc + 1, pos := t.pos } else none) = E) := Lib.hid (by rw [← hE]; unfold stepT; simp only []; rw [if_neg (show ¬ (i.op = 1 ∨ i.op = 2 ∨ i.op = 3) by omega), if_neg (show ¬ i.op = 5 by omega), if_neg (show ¬ i.op = 6 by omega), if_neg (show ¬ i.op = 7 by omega), if_neg (show ¬ i.op = 13 by omega), ho]; rfl)
  have HO := Lib.hid ho
  rw [hE]
  clear hE ht ho
  have HSZ := Lib.hid (fun k p => try_size { t with pc := k, pos := p } rv HT.out.sl)
  obtain ⟨pos, hP⟩ : ∃ pos, t.pos = pos := ⟨_, rfl⟩
  obtain ⟨pc, hPC⟩ : ∃ pc, t.pc = pc := ⟨_, rfl⟩
  have kT : w.heap[bT]? = some (.cells (tryC { t with pc := pc, pos := pos } rv) 82 (0, 0)) := by rw [← hP, ← hPC]; exact kT
  rw [hP] at hp
  try rw [hP] at HE
  rw [hPC] at hpc
  try rw [hPC] at HE
  clear hP hPC
  have hbt := heap_lt kT
  have cP0 := cell_of kT 0 (try_pc { t with pc := pc, pos := pos } rv)
  unfold instC
  have cM := cells_of kM; (try simp only [instC, zzT, zzO, zzS] at cM); have fM := frees_of kM
  go_enter Try.func35, Try.ntmps35
  go_upto_region 2 with (first
    | (have _kk := cP0; ((with_reducible refine stopBx 63 _ rfl ?_); unfold Stop; refine wpList_box_blk rfl 63 _ rfl _ (by go_simp; first | done | exact rfl) #[.int .u8 i.op, .int .u8 i.c, .int .u64 i.set.a0, .int .u64 i.set.a1, .int .u64 i.set.a2, .int .u64 i.set.a3, .int .i64 i.x, .int .i64 i.y] rfl ?_; intro bI wn hbn kn hUn hsn; clear cM fM; have lMI := heap_lt kM; rw [hbn] at lMI; replace kM := hUn.heap kM (fun h => h); have gI : w.heap.size ≤ bI := Nat.le_trans hU0.size (Nat.le_of_eq hbn); have kI := kn; replace hU0 := hU0.then hUn (fun _ _ h => h.elim); replace hz : w.heap.size ≤ wn.heap.size := (by omega); replace kT := hUn.heap kT (fun h => h); replace cP0 := cell_of kT 0 (try_pc { t with pc := pc, pos := pos } rv); clear kn hUn hsn hbn; have cI := cells_of kI; (try simp only [instC, zzT, zzO, zzS] at cI); have fI := frees_of kI; have cM := cells_of kM; (try simp only [instC, zzT, zzO, zzS] at cM); have fM := frees_of kM); clear _kk)
    | ((with_reducible refine stopSt 3 _ _ rfl ?_); unfold Stop; refine wpList_store_blk rfl 3 _ _ rfl bT 0 rfl (.int .i64 ((pc + 1 : Nat) : Int)) (by go_simp; first | done | exact rfl | (congr 1; omega) | omega) (tryC { t with pc := pc, pos := pos } rv) (tryC { t with pc := pc + 1, pos := pos } rv) _ kT (by rw [HSZ.out]; exact (by decide : 0 + 1 ≤ 25)) (by kernel_rfl) rfl (try_set_pc { t with pc := pc, pos := pos } rv (pc + 1)) ?_; intro w1 k1 hu1 hs1))
  have kI1 := hu1.heap kI (fun (e : bI = bT) => by omega)
  have kM1 := hu1.heap kM HNE.out
  have HU1 := Lib.hid (hU0.then hu1 (fun _ _ h => h))
  clear cI fI cM fM kI kM hU0 hz hu1 hs1 cP0 kT
  have i0 := cell_of kI1 0 (v := .int .u8 i.op) rfl
  have i1 := cell_of kI1 1 (v := .int .u8 i.c) rfl
  have i2 := cell_of kI1 2 (v := .int .u64 i.set.a0) rfl
  have i3 := cell_of kI1 3 (v := .int .u64 i.set.a1) rfl
  have i4 := cell_of kI1 4 (v := .int .u64 i.set.a2) rfl
  have i5 := cell_of kI1 5 (v := .int .u64 i.set.a3) rfl
  have i6 := cell_of kI1 6 (v := .int .i64 i.x) rfl
  have i7 := cell_of kI1 7 (v := .int .i64 i.y) rfl
  have d3 := cell_of kM1 3 (v := .string s) rfl
  have m0 := cell_of kM1 0 (v := cv) rfl
  have m1 := cell_of kM1 1 (v := .int .i64 r) rfl
  have m2 := cell_of kM1 2 (v := .bool fold) rfl
  have cP1 := cell_of k1 1 (try_pos { t with pc := pc + 1, pos := pos } rv)
  have h1 : (i.op == 1) = false := by simp [HO.out]
  have h2 : (i.op == 2) = false := by simp [HO.out]
  have h3 : (i.op == 3) = false := by simp [HO.out]
  have h4 : (i.op == 4) = false := by simp [HO.out]
  have h5 : (i.op == 5) = false := by simp [HO.out]
  have h6 : (i.op == 6) = false := by simp [HO.out]
  have h7 : (i.op == 7) = false := by simp [HO.out]
  have h8 : (i.op == 8) = false := by simp [HO.out]
  have h9 : (i.op == 9) = false := by simp [HO.out]
  have h10 : (i.op == 10) = false := by simp [HO.out]
  have h11 : (i.op == 11) = true := by simp [HO.out]
  have HK1 := Lib.hid k1
  have HWA := Lib.hid (fun w => rword_any (w := w) s (pos : Int))
  have HWB := Lib.hid (fun w => rword_any (w := w) s ((pos : Int) - 1))
  obtain ⟨A, hA⟩ : ∃ A, wordAt s.data.toList (pos : Int) = A := ⟨_, rfl⟩
  obtain ⟨B, hB⟩ : ∃ B, wordAt s.data.toList ((pos : Int) - 1) = B := ⟨_, rfl⟩
  rw [hA] at HWA HE
  rw [hB] at HWB HE
  clear hA hB
  have hsub : IntKind.i64.wrap ((pos : Int) - 1) = (pos : Int) - 1 := by unfold IntKind.wrap; simp [IntKind.signed, IntKind.bits]; omega
  have e := HE.out
  subst e
  cases A <;> cases B
  · go_wp2
    first | (refine wq_region_from_still ?_) | (refine wq_region_from (by kernel_rfl) (by kernel_rfl) ?_)
    repeat
      first
        | ((refine WQ_skip (by rfl) ?_); (try simp only [Act.put, zzT, zzO, zzS]))
        | (apply WQ_val (by rfl); (focus (intro w' hC; (have e0 := From.cell hC d3; have e1 := From.cell hC cP1); go_simp; (first | done | exact rfl | (rw [if_pos (by omega)]; done) | (exact str_idx (by omega))))); (try simp only [Act.put, zzT, zzO, zzS]))
        | (apply WQ_call (by rfl); (focus (intro w' hC; go_simp; (first | done | exact rfl | exact ⟨rfl, rfl⟩))); (focus (intro w' hC; first | (with_reducible exact From.of_same hC (HWA.out _)) | (with_reducible exact From.of_same hC (HWB.out _)))); (try simp only [Act.put, zzT, zzO, zzS]))
    refine WQ_nil ?_
    intro wq hq
    go_wp2
    go_ret
    exact ⟨rfl, HU1.out.then (upd_from hq) (fun _ _ h => h.elim)⟩
  · go_wp2
    first | (refine wq_region_from_still ?_) | (refine wq_region_from (by kernel_rfl) (by kernel_rfl) ?_)
    repeat
      first
        | ((refine WQ_skip (by rfl) ?_); (try simp only [Act.put, zzT, zzO, zzS]))
        | (apply WQ_val (by rfl); (focus (intro w' hC; (have e0 := From.cell hC d3; have e1 := From.cell hC cP1); go_simp; (first | done | exact rfl | (rw [if_pos (by omega)]; done) | (exact str_idx (by omega))))); (try simp only [Act.put, zzT, zzO, zzS]))
        | (apply WQ_call (by rfl); (focus (intro w' hC; go_simp; (first | done | exact rfl | exact ⟨rfl, rfl⟩))); (focus (intro w' hC; first | (with_reducible exact From.of_same hC (HWA.out _)) | (with_reducible exact From.of_same hC (HWB.out _)))); (try simp only [Act.put, zzT, zzO, zzS]))
    refine WQ_nil ?_
    intro wq hq
    go_wp2
    go_ret
    exact ⟨rfl, (upd_from hq).heap HK1.out (fun h => h), HU1.out.then (upd_from hq) (fun _ _ h => h.elim)⟩
  · go_wp2
    first | (refine wq_region_from_still ?_) | (refine wq_region_from (by kernel_rfl) (by kernel_rfl) ?_)
    repeat
      first
        | ((refine WQ_skip (by rfl) ?_); (try simp only [Act.put, zzT, zzO, zzS]))
        | (apply WQ_val (by rfl); (focus (intro w' hC; (have e0 := From.cell hC d3; have e1 := From.cell hC cP1); go_simp; (first | done | exact rfl | (rw [if_pos (by omega)]; done) | (exact str_idx (by omega))))); (try simp only [Act.put, zzT, zzO, zzS]))
        | (apply WQ_call (by rfl); (focus (intro w' hC; go_simp; (first | done | exact rfl | exact ⟨rfl, rfl⟩))); (focus (intro w' hC; first | (with_reducible exact From.of_same hC (HWA.out _)) | (with_reducible exact From.of_same hC (HWB.out _)))); (try simp only [Act.put, zzT, zzO, zzS]))
    refine WQ_nil ?_
    intro wq hq
    go_wp2
    go_ret
    exact ⟨rfl, HU1.out.then (upd_from hq) (fun _ _ h => h.elim)⟩
  · go_wp2
    first | (refine wq_region_from_still ?_) | (refine wq_region_from (by kernel_rfl) (by kernel_rfl) ?_)
    repeat
      first
        | ((refine WQ_skip (by rfl) ?_); (try simp only [Act.put, zzT, zzO, zzS]))
        | (apply WQ_val (by rfl); (focus (intro w' hC; (have e0 := From.cell hC d3; have e1 := From.cell hC cP1); go_simp; (first | done | exact rfl | (rw [if_pos (by omega)]; done) | (exact str_idx (by omega))))); (try simp only [Act.put, zzT, zzO, zzS]))
        | (apply WQ_call (by rfl); (focus (intro w' hC; go_simp; (first | done | exact rfl | exact ⟨rfl, rfl⟩))); (focus (intro w' hC; first | (with_reducible exact From.of_same hC (HWA.out _)) | (with_reducible exact From.of_same hC (HWB.out _)))); (try simp only [Act.put, zzT, zzO, zzS]))
    refine WQ_nil ?_
    intro wq hq
    go_wp2
    go_ret
    exact ⟨rfl, HU1.out.then (upd_from hq) (fun _ _ h => h.elim)⟩
end Go.Proofs.Ytigbfgmgdfnhcaa
namespace Go.Proofs.Ytigbfgmgdfnhcaa
open Go.RowKit
theorem spl_mid : ∀ (l : List Value) (o : Nat) (C : Array Value), o + l.length ≤ C.size → spl C o l = (C.toList.take o ++ l ++ C.toList.drop (o + l.length)).toArray
  | [], o, C, _ => by simp [spl]
  | v :: r, o, C, h => by
    have h' : o + 1 + r.length ≤ (C.setIfInBounds o v).size := by simp at h ⊢; omega
    rw [spl, spl_mid r (o + 1) _ h']
    have ho : o < C.toList.length := by simp at h ⊢; omega
    congr 1
    rw [Array.toList_setIfInBounds, List.take_add_one, List.getElem?_set_self ho, List.take_set_of_le (Nat.le_refl o), List.drop_set_of_lt (by omega)]
    simp [Nat.add_assoc, Nat.add_comm 1]
theorem spl_all (l : List Value) (C : Array Value) (h : l.length = C.size) : spl C 0 l = l.toArray := by
  rw [spl_mid l 0 C (by omega), List.take_zero, List.nil_append, List.drop_of_length_le (by simp; omega), List.append_nil]
theorem fill_spl : ∀ (l : List Value) (k : Nat) (C : Array Value), (l.zipIdx k).foldl (fun cs x => cs.setIfInBounds (0 + x.2) x.1) C = spl C k l
  | [], _, _ => rfl
  | v :: r, k, C => by
    rw [List.zipIdx_cons, List.foldl_cons, fill_spl r (k + 1)]
    simp [spl]
theorem built_one {P : Program} {e : TypeId} {ie : TypeInfo} {z v : Value} {n : Nat} (hi : P.info? e = some ie) (hz : ie.zero = some z) (hsz : ie.size = n) (h0 : 0 < n) (h24 : n ≤ 16777216) (hv : v.cells.size = n) : P.builtSlice e 1 [(0, v)] = some v.cells := by
  unfold Program.builtSlice
  subst hsz
  simp only [hi, hz, Nat.one_mul]
  rw [if_neg (by omega)]
  unfold Instr.fill Instr.fill
  simp only [Nat.zero_mul, hv, Nat.zero_add, ne_eq, not_true_eq_false, Array.size_map, Array.size_range, decide_false, Bool.false_or, gt_iff_lt, Nat.lt_irrefl, Bool.false_eq_true, if_false]
  congr 1
  have e1 : ∀ C : Array Value, (v.cells.zipIdx.foldl (fun cs (x : Value × Nat) => cs.setIfInBounds (0 + x.2) x.1) C) = spl C 0 v.cells.toList := by
    intro C
    rw [← fill_spl, ← Array.foldl_toList, Array.toList_zipIdx]
  have e2 := e1 ((Array.range ie.size).map (z.cells[· % z.cells.size]!))
  simp only [Nat.zero_add] at e2
  rw [e2, spl_all _ _ (by simp [hv])]
section
variable {P : Program} {ops : Array Oper} {rest : List Oper} {op : Oper} {a : Act} {w : World} {K : Act → World → Prop} {Q : Exit → Act → World → Prop}
theorem wp_slice1_blk (t e : TypeId) (parts : Array (Nat × Operand)) (ho : op.op = .buildSlice t 1 parts) (hu : P.underlying t = some (.slice e)) (ie : TypeInfo) (z v : Value) (n : Nat) (hi : P.info? e = some ie) (hz : ie.zero = some z) (hsz : ie.size = n) (h0 : 0 < n) (h24 : n ≤ 16777216)
    (x : Operand) (hp : parts = #[(0, x)]) (hx : a.eval x = v) (Z : Array Value) (hv : v.cells = Z) (hZ : Z.size = n)
    (h : ∀ b w', w.heap.size = b → w'.heap[b]? = some (.cells Z e (0, 0)) → Upd (fun _ => False) w w' → w'.heap.size = b + 1 → K (a.put op.dst (.slice (some ⟨b, 0, none⟩) 1 1)) w') : op.wp P a w K Q := by
  subst hv
  have hb := built_one hi hz hsz h0 h24 hZ
  unfold Program.builtSlice at hb
  simp only [hi, hz] at hb
  subst hsz
  subst hp
  rw [if_neg (by omega), show [(0, v)] = ((#[(0, x)] : Array (Nat × Operand)).map fun (i, x) => (i, a.eval x)).toList by simp [hx]] at hb
  obtain ⟨g1, g2, g3⟩ := new_facts w (.cells v.cells e)
  refine wp_buildSlice t e 1 _ ho _ ie z hu hi hz (by omega) (by omega) hb ?_
  exact h _ _ rfl g1 g2 g3
end
theorem RdsAt.one {w : World} {B : Nat} {v : Value} {l : List Int} (h : RdsAt w B v l) : v.oneCell' = true := by
  rcases h.2 with ⟨rfl, _⟩ | ⟨g, c, cur, rfl, _⟩ <;> rfl
theorem rds_cells {w : World} {B : Nat} {v : Value} {l : List Int} (h : RdsAt w B v l) : v.cells = #[v] := by
  rcases h.2 with ⟨rfl, _⟩ | ⟨g, c, cur, rfl, _⟩ <;> rfl
theorem rds_all {w : World} {B : Nat} {v : Value} {l : List Int} (h : RdsAt w B v l) : (#[v] : Array Value).toList.all (·.oneCell') = true := by
  simp [h.one]
theorem RdsAt.base {w : World} {B B2 : Nat} {v : Value} {l : List Int} (h : RdsAt w B2 v l) (hb : B ≤ B2) : RdsAt w B v l := by
  refine ⟨h.1, ?_⟩
  rcases h.2 with h0 | ⟨g, c, cur, e, hB, r⟩
  · exact .inl h0
  · exact .inr ⟨g, c, cur, e, Nat.le_trans hb hB, r⟩
theorem RdsAt.drew {w : World} {B : Nat} {v : Value} {l : List Int} (h : RdsAt w B v l) : RdsAt w.drew B v l := h
section
variable {P : Program} {ops : Array Oper} {rest : List Oper} {op : Oper} {a : Act} {w : World} {Q : Exit → Act → World → Prop}
theorem wpList_append_rds (hgd : op.guard = none) (s x : Operand) (t : TypeId) (ho : op.op = .call { callee := .builtin .append, args := #[s, x], argTypes := #[51, 51] }) (ht : t = 51) {B : Nat} (v : Value) {l : List Int} (hs : a.eval s = .slice none 0 0) (hx : a.eval x = v) (h : RdsAt w B v l) (hl : l.length ≤ 2000)
    (hK : ∀ v' w', RdsAt w' w.heap.size v' l → Upd (fun _ => False) w w' → wpList Try.prog ops Q rest (a.put op.dst v') w') : wpList Try.prog ops Q (op :: rest) a w := by
  obtain ⟨i0, hi, hz0, hz1, hz2⟩ := info_parts info_int5
  rcases h.2 with ⟨rfl, h0⟩ | ⟨g, c, cur, rfl, hB, hb, hnc, hcm, hsz, htk⟩
  · refine wpList_plain hgd fun K hK' => ?_
    have hrun := run_append_owned_none (P := Try.prog) w w.heap.size 51 op.type 3 i0 1 Try.underlying51 hi (.slice none 0 0) 0 [] (World.ownsRow_nil w w.heap.size 3 1)
    unfold Oper.wp
    simp [execOp, ho, resolve, invoke, builtin, hs, hx, hrun, Result.andThen]
    refine hK' _ _ (hK _ _ ?_ (Upd.refl _ _))
    have : l = [] := List.eq_nil_of_length_eq_zero h0
    subst this
    exact ⟨rfl, .inl ⟨rfl, rfl⟩⟩
  · refine wpList_append_own2 w hgd s x 51 ho w.heap.size 3 i0 (.int .i64 0) 1 8 Try.underlying51 hi hz0 hz1 hz2 rfl (by decide) (.slice none 0 0) 0 [] hs (World.ownsRow_nil w _ _ 1) ⟨g, 0, none⟩ l.length c (intsC l) hx (by simp [intsC]) (owned_cells h) (fun u hu => by obtain ⟨x, _, rfl⟩ := List.mem_map.1 hu; rfl) (by unfold maxLen; omega) (by omega) (Nat.le_refl _) ?_
    intro v' w' ho' hg hn
    refine hK v' w' (by simpa [RdsAt] using ho') ((Upd.refl _ w).grown hg (fun k _ e => by cases e))
end
theorem tryL_one {t : TryD} {v : Value} (h : v.oneCell' = true) : ∀ u, u ∈ tryL t v → u.oneCell' = true := by
  intro u hu
  simp only [tryL, List.mem_cons, List.mem_append, List.mem_map, List.not_mem_nil, or_false] at hu
  rcases hu with rfl | rfl | ⟨x, _, rfl⟩ | rfl
  · rfl
  · rfl
  · rfl
  · exact h
theorem own_form25 {w : World} {B n : Nat} {e : TypeId} {v : Value} {xs : List Value} (h : w.ownsRow B e 25 v (n + 1) xs) : ∃ g c, v = .slice (some ⟨g, 0, none⟩) (n + 1) c := by
  rcases h.2 with ⟨_, h0⟩ | ⟨g, cap, cur, rfl, _⟩
  · omega
  · exact ⟨g, cap, rfl⟩
theorem blk_cells {w : World} {b : Nat} {l : List Value} {e : TypeId} (h : w.heap[b]? = some (.cells l.toArray e (0, 0))) : ∀ j u, l[j]? = some u → w.cell? ((⟨b, 0, none⟩ : Addr).add j) = some u := by
  intro j u hu
  rw [Addr.add_lit, Nat.zero_add]
  exact cell_of h j (by simpa using hu)
/-- What a split leaves: one more try behind the others. -/
def SplPost (w : World) (bM bT B : Nat) (mc : Value → Array Value) (M T : TypeId) (rv : Value) (t t1 : TryD) (ts : List TryD) (t2 : TryD) (vs : List Value) (tv : Value) (e : Ending) (w' : World) : Prop :=
  e = .returned (.bool true) ∧ ∃ tv' rv', w'.heap[bM]? = some (.cells (mc tv') M (0, 0)) ∧ w'.heap[bT]? = some (.cells (tryC t1 rv) T (0, 0)) ∧ w'.ownsRow B T 25 tv' (ts.length + 1) (triesC (ts ++ [t2]) (vs ++ [rv'])) ∧ RdsAt w' w.heap.size rv' t.rounds ∧
    (tv'.ownBlock = tv.ownBlock ∨ ∃ g, tv'.ownBlock = some g ∧ w.heap.size ≤ g) ∧ Upd (fun k => k = bM ∨ k = bT ∨ tv.ownBlock = some k) w w'
end Go.Proofs.Ytigbfgmgdfnhcaa
