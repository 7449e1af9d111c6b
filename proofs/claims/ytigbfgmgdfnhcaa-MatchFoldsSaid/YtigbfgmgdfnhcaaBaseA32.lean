/- Lemmas that the law's proof stands on, part 32: StRB. No condition. -/
import Derived.Test.YtigbfgmgdfnhcaaBaseA0
import Derived.Test.YtigbfgmgdfnhcaaBaseA31
set_option linter.all false
set_option linter.unusedVariables false
set_option linter.unusedSimpArgs false
namespace Go.Proofs.Ytigbfgmgdfnhcaa
open Go.RowKit
set_option maxRecDepth 100000 in
set_option maxHeartbeats 8000000 in
theorem rstepJ_any {w : World} (bM bT : Nat) (cv tv rv : Value) (r stp : Int) (fold : Bool) (s : ByteArray) (t : TryD) (i : InstD) (ho : i.op = 5) (hx : 0 ≤ i.x) (hx2 : i.x ≤ 1000000) (ht : TryOK s.size t) (hpc : t.pc ≤ 1000000) (hs0 : s.size ≤ 140737488351232)
    (kM : w.heap[bM]? = some (.cells #[cv, .int .i64 r, .bool fold, .string s, tv, .int .i64 stp] 80 (0, 0))) (kT : w.heap[bT]? = some (.cells (tryC t rv) 82 (0, 0))) :
    Calls Try.prog 35 #[.pointer (some ⟨bM, 0, none⟩), .pointer (some ⟨bT, 0, none⟩), .agg (instC i).toArray] w (StepPost w bT 82 rv (stepT fold s.data.toList t i)) := by
  have HL : Hid (s.data.toList.length = s.size) := Lib.hid (by simp)
  have hU0 := Upd.refl (fun k => k = bT) w
  have hz := Nat.le_refl w.heap.size
  have HNE : Hid (bM ≠ bT) := Lib.hid (fun e => by rw [e, kT] at kM; simp at kM)
  have HT := Lib.hid ht
  have HM := Lib.hid kM
  have hp := ht.pos
  obtain ⟨E, hE⟩ : ∃ E, stepT fold s.data.toList t i = E := ⟨_, rfl⟩
  have HE : Hid (some { t with pc := i.x.toNat, pos := t.pos } = E) := Lib.hid (by rw [← hE]; unfold stepT; simp only []; rw [if_neg (by omega), if_pos ho])
  have HO := Lib.hid ho
  rw [hE]
  clear hE ht ho
  have HSZ := Lib.hid (fun k p => try_size { t with pc := k, pos := p } rv HT.out.sl)
  obtain ⟨pos, hP⟩ : ∃ pos, t.pos = pos := ⟨_, rfl⟩
  obtain ⟨pc, hPC⟩ : ∃ pc, t.pc = pc := ⟨_, rfl⟩
  have kT : w.heap[bT]? = some (.cells (tryC { t with pc := pc, pos := pos } rv) 82 (0, 0)) := by rw [← hP, ← hPC]; exact kT
  have HP := Lib.hid hP
  have HPC := Lib.hid hPC
  rw [hP] at hp
  try rw [hP] at HE
  rw [hPC] at hpc
  try rw [hPC] at HE
  clear hP hPC
  have hbt := heap_lt kT
  have cP0 := cell_of kT 0 (try_pc { t with pc := pc, pos := pos } rv)
  unfold instC
  have cM := cells_of kM; (try simp only [instC, zzT, zzO, zzS] at cM); have fM := frees_of kM
  go_enter Try.func35, Try.ntmps35
  go_upto_region 2 with (first
    | (have _kk := cP0; ((with_reducible refine stopBx 63 _ rfl ?_); unfold Stop; refine wpList_box_blk rfl 63 _ rfl _ (by go_simp; first | done | exact rfl) #[.int .u8 i.op, .int .u8 i.c, .int .u64 i.set.a0, .int .u64 i.set.a1, .int .u64 i.set.a2, .int .u64 i.set.a3, .int .i64 i.x, .int .i64 i.y] rfl ?_; intro bI wn hbn kn hUn hsn; clear cM fM; have lMI := heap_lt kM; rw [hbn] at lMI; replace kM := hUn.heap kM (fun h => h); have gI : w.heap.size ≤ bI := Nat.le_trans hU0.size (Nat.le_of_eq hbn); have kI := kn; replace hU0 := hU0.then hUn (fun _ _ h => h.elim); replace hz : w.heap.size ≤ wn.heap.size := (by omega); replace kT := hUn.heap kT (fun h => h); replace cP0 := cell_of kT 0 (try_pc { t with pc := pc, pos := pos } rv); clear kn hUn hsn hbn; have cI := cells_of kI; (try simp only [instC, zzT, zzO, zzS] at cI); have fI := frees_of kI; have cM := cells_of kM; (try simp only [instC, zzT, zzO, zzS] at cM); have fM := frees_of kM); clear _kk)
    | ((with_reducible refine stopSt 3 _ _ rfl ?_); unfold Stop; refine wpList_store_blk rfl 3 _ _ rfl bT 0 rfl (.int .i64 ((pc + 1 : Nat) : Int)) (by go_simp; first | done | exact rfl | (congr 1; omega) | omega) (tryC { t with pc := pc, pos := pos } rv) (tryC { t with pc := pc + 1, pos := pos } rv) _ kT (by rw [HSZ.out]; exact (by decide : 0 + 1 ≤ 25)) (by kernel_rfl) rfl (try_set_pc { t with pc := pc, pos := pos } rv (pc + 1)) ?_; intro w1 k1 hu1 hs1))
  have kI1 := hu1.heap kI (fun (e : bI = bT) => by omega)
  have kM1 := hu1.heap kM HNE.out
  have HU1 := Lib.hid (hU0.then hu1 (fun _ _ h => h))
  clear cI fI cM fM kI kM hU0 hz hu1 hs1 cP0 kT
  have i0 := cell_of kI1 0 (v := .int .u8 i.op) rfl
  have i1 := cell_of kI1 1 (v := .int .u8 i.c) rfl
  have i2 := cell_of kI1 2 (v := .int .u64 i.set.a0) rfl
  have i3 := cell_of kI1 3 (v := .int .u64 i.set.a1) rfl
  have i4 := cell_of kI1 4 (v := .int .u64 i.set.a2) rfl
  have i5 := cell_of kI1 5 (v := .int .u64 i.set.a3) rfl
  have i6 := cell_of kI1 6 (v := .int .i64 i.x) rfl
  have i7 := cell_of kI1 7 (v := .int .i64 i.y) rfl
  have d3 := cell_of kM1 3 (v := .string s) rfl
  have cP1 := cell_of k1 1 (try_pos { t with pc := pc + 1, pos := pos } rv)
  have h1 : (i.op == 1) = false := by simp [HO.out]
  have h2 : (i.op == 2) = false := by simp [HO.out]
  have h3 : (i.op == 3) = false := by simp [HO.out]
  have h4 : (i.op == 4) = false := by simp [HO.out]
  have h5 : (i.op == 5) = true := by simp [HO.out]
  have e := HE.out
  subst e
  clear HE
  have fT := frees_of k1
  go_wp2_with (first | ((with_reducible refine stopSt 3 _ _ rfl ?_); unfold Stop; refine wpList_store_blk rfl 3 _ _ rfl bT 0 rfl (.int .i64 ((i.x.toNat : Nat) : Int)) (by go_simp; first | done | exact rfl | (congr 1; omega) | omega) (tryC { t with pc := pc + 1, pos := pos } rv) (tryC { t with pc := i.x.toNat, pos := pos } rv) _ k1 (by rw [HSZ.out]; exact (by decide : 0 + 1 ≤ 25)) (by kernel_rfl) rfl (try_set_pc { t with pc := pc + 1, pos := pos } rv i.x.toNat) ?_; intro w9 k9 hu9 hs9))
  go_ret
  exact ⟨rfl, k9, HU1.out.then hu9 (fun _ _ h => h)⟩
set_option maxRecDepth 100000 in
set_option maxHeartbeats 8000000 in
theorem rstepV_any {w : World} (bM bT : Nat) (cv tv rv : Value) (r stp : Int) (fold : Bool) (s : ByteArray) (t : TryD) (i : InstD) (ho : i.op = 6) (hx : 0 ≤ i.x) (hx2 : i.x < 22) (ht : TryOK s.size t) (hpc : t.pc ≤ 1000000) (hs0 : s.size ≤ 140737488351232)
    (kM : w.heap[bM]? = some (.cells #[cv, .int .i64 r, .bool fold, .string s, tv, .int .i64 stp] 80 (0, 0))) (kT : w.heap[bT]? = some (.cells (tryC t rv) 82 (0, 0))) :
    Calls Try.prog 35 #[.pointer (some ⟨bM, 0, none⟩), .pointer (some ⟨bT, 0, none⟩), .agg (instC i).toArray] w (StepPost w bT 82 rv (stepT fold s.data.toList t i)) := by
  have HL : Hid (s.data.toList.length = s.size) := Lib.hid (by simp)
  have hU0 := Upd.refl (fun k => k = bT) w
  have hz := Nat.le_refl w.heap.size
  have HNE : Hid (bM ≠ bT) := Lib.hid (fun e => by rw [e, kT] at kM; simp at kM)
  have HT := Lib.hid ht
  have HM := Lib.hid kM
  have hp := ht.pos
  obtain ⟨E, hE⟩ : ∃ E, stepT fold s.data.toList t i = E := ⟨_, rfl⟩
  have HE : Hid (some { t with pc := t.pc + 1, slots := t.slots.set i.x.toNat t.pos } = E) := Lib.hid (by rw [← hE]; unfold stepT; simp only []; rw [if_neg (by omega), if_neg (by omega), if_pos ho])
  have HO := Lib.hid ho
  rw [hE]
  clear hE ht ho
  have HSZ := Lib.hid (fun k p => try_size { t with pc := k, pos := p } rv HT.out.sl)
  obtain ⟨pos, hP⟩ : ∃ pos, t.pos = pos := ⟨_, rfl⟩
  obtain ⟨pc, hPC⟩ : ∃ pc, t.pc = pc := ⟨_, rfl⟩
  have kT : w.heap[bT]? = some (.cells (tryC { t with pc := pc, pos := pos } rv) 82 (0, 0)) := by rw [← hP, ← hPC]; exact kT
  have HP := Lib.hid hP
  have HPC := Lib.hid hPC
  rw [hP] at hp
  try rw [hP] at HE
  rw [hPC] at hpc
  try rw [hPC] at HE
  clear hP hPC
  have hbt := heap_lt kT
  have cP0 := cell_of kT 0 (try_pc { t with pc := pc, pos := pos } rv)
  unfold instC
  have cM := cells_of kM; (try simp only [instC, zzT, zzO, zzS] at cM); have fM := frees_of kM
  go_enter Try.func35, Try.ntmps35
  go_upto_region 2 with (first
    | (have _kk := cP0; ((with_reducible refine stopBx 63 _ rfl ?_); unfold Stop; refine wpList_box_blk rfl 63 _ rfl _ (by go_simp; first | done | exact rfl) #[.int .u8 i.op, .int .u8 i.c, .int .u64 i.set.a0, .int .u64 i.set.a1, .int .u64 i.set.a2, .int .u64 i.set.a3, .int .i64 i.x, .int .i64 i.y] rfl ?_; intro bI wn hbn kn hUn hsn; clear cM fM; have lMI := heap_lt kM; rw [hbn] at lMI; replace kM := hUn.heap kM (fun h => h); have gI : w.heap.size ≤ bI := Nat.le_trans hU0.size (Nat.le_of_eq hbn); have kI := kn; replace hU0 := hU0.then hUn (fun _ _ h => h.elim); replace hz : w.heap.size ≤ wn.heap.size := (by omega); replace kT := hUn.heap kT (fun h => h); replace cP0 := cell_of kT 0 (try_pc { t with pc := pc, pos := pos } rv); clear kn hUn hsn hbn; have cI := cells_of kI; (try simp only [instC, zzT, zzO, zzS] at cI); have fI := frees_of kI; have cM := cells_of kM; (try simp only [instC, zzT, zzO, zzS] at cM); have fM := frees_of kM); clear _kk)
    | ((with_reducible refine stopSt 3 _ _ rfl ?_); unfold Stop; refine wpList_store_blk rfl 3 _ _ rfl bT 0 rfl (.int .i64 ((pc + 1 : Nat) : Int)) (by go_simp; first | done | exact rfl | (congr 1; omega) | omega) (tryC { t with pc := pc, pos := pos } rv) (tryC { t with pc := pc + 1, pos := pos } rv) _ kT (by rw [HSZ.out]; exact (by decide : 0 + 1 ≤ 25)) (by kernel_rfl) rfl (try_set_pc { t with pc := pc, pos := pos } rv (pc + 1)) ?_; intro w1 k1 hu1 hs1))
  have kI1 := hu1.heap kI (fun (e : bI = bT) => by omega)
  have kM1 := hu1.heap kM HNE.out
  have HU1 := Lib.hid (hU0.then hu1 (fun _ _ h => h))
  clear cI fI cM fM kI kM hU0 hz hu1 hs1 cP0 kT
  have i0 := cell_of kI1 0 (v := .int .u8 i.op) rfl
  have i1 := cell_of kI1 1 (v := .int .u8 i.c) rfl
  have i2 := cell_of kI1 2 (v := .int .u64 i.set.a0) rfl
  have i3 := cell_of kI1 3 (v := .int .u64 i.set.a1) rfl
  have i4 := cell_of kI1 4 (v := .int .u64 i.set.a2) rfl
  have i5 := cell_of kI1 5 (v := .int .u64 i.set.a3) rfl
  have i6 := cell_of kI1 6 (v := .int .i64 i.x) rfl
  have i7 := cell_of kI1 7 (v := .int .i64 i.y) rfl
  have d3 := cell_of kM1 3 (v := .string s) rfl
  have cP1 := cell_of k1 1 (try_pos { t with pc := pc + 1, pos := pos } rv)
  have h1 : (i.op == 1) = false := by simp [HO.out]
  have h2 : (i.op == 2) = false := by simp [HO.out]
  have h3 : (i.op == 3) = false := by simp [HO.out]
  have h4 : (i.op == 4) = false := by simp [HO.out]
  have h5 : (i.op == 5) = false := by simp [HO.out]
  have h6 : (i.op == 6) = true := by simp [HO.out]
  have hxn : ∃ n : Nat, i.x = (n : Int) ∧ n < 22 := ⟨i.x.toNat, by omega, by omega⟩
  obtain ⟨n, hn, hn22⟩ := hxn
  rw [hn] at i6
  rw [hn, Int.toNat_natCast] at HE
  have e := HE.out
  subst e
  have HSL := Lib.hid (try_set_slot { t with pc := pc + 1, pos := pos } rv n (pos : Int) (by have := HT.out.sl; show n < t.slots.length; omega))
  clear HE hn hx hx2
  have fT := frees_of k1
  have hU0 := Upd.refl (fun _ => False) w1
  go_wp2
  refine wp_region_seq (fun v => Upd (fun _ => False) w1 v) (fun i => i != 10) [(0, true), (1, true), (2, true), (3, true), (4, true), (5, true), (6, true), (7, true), (8, true), (9, true), (10, false)] (by exact rfl) (by kernel_rfl) (by intro c a d v w h; cases d <;> exact h) ?_
  have hS : Upd (fun _ => False) w1 w1.drew := (Upd.refl _ w1).drew
  iterate 10 (((apply seq_val2 rfl (by rfl); (focus (intro w' hS'; have s0 := hS'.cell i6 (fun h => h); have s1 := hS'.cell cP1 (fun h => h); go_simp; (first | done | exact rfl | (rw [if_pos (by omega)]; done)))); (focus exact hS))); (try simp only [Act.put, zzT, zzO, zzS]))
  refine seq_loud2 rfl (fun K hK => ?_)
  rw [if_pos (by rfl)]; refine wp_store_blk 3 _ _ rfl bT (2 + n) (by go_simp; first | done | exact rfl) (.int .i64 (pos : Int)) rfl (tryC { t with pc := pc + 1, pos := pos } rv) (tryC { t with pc := pc + 1, pos := pos, slots := t.slots.set n (pos : Int) } rv) _ (hS.heap k1 (fun h => h)) (by rw [HSZ.out]; show 2 + n + 1 ≤ 25; omega) (by kernel_rfl) rfl HSL.out ?_; intro w9 k9 hu9 hs9; refine hK _ _ (fun e => by cases e) ?_; clear hK K
  (try simp only [Act.put, zzT, zzO, zzS])
  refine seq_nil ?_
  go_wp2
  go_ret
  exact ⟨rfl, k9, (HU1.out.then hS (fun _ _ h => h.elim)).then hu9 (fun _ _ h => h)⟩
set_option maxRecDepth 100000 in
set_option maxHeartbeats 8000000 in
theorem rstepK_any {w : World} (bM bT : Nat) (cv tv rv : Value) (r stp : Int) (fold : Bool) (s : ByteArray) (t : TryD) (i : InstD) (ho : i.op = 7) (hx : 0 ≤ i.x) (hx2 : i.x < 10) (ht : TryOK s.size t) (hpc : t.pc ≤ 1000000) (hs0 : s.size ≤ 140737488351232)
    (kM : w.heap[bM]? = some (.cells #[cv, .int .i64 r, .bool fold, .string s, tv, .int .i64 stp] 80 (0, 0))) (kT : w.heap[bT]? = some (.cells (tryC t rv) 82 (0, 0))) :
    Calls Try.prog 35 #[.pointer (some ⟨bM, 0, none⟩), .pointer (some ⟨bT, 0, none⟩), .agg (instC i).toArray] w (StepPost w bT 82 rv (stepT fold s.data.toList t i)) := by
  have HL : Hid (s.data.toList.length = s.size) := Lib.hid (by simp)
  have hU0 := Upd.refl (fun k => k = bT) w
  have hz := Nat.le_refl w.heap.size
  have HNE : Hid (bM ≠ bT) := Lib.hid (fun e => by rw [e, kT] at kM; simp at kM)
  have HT := Lib.hid ht
  have HM := Lib.hid kM
  have hp := ht.pos
  obtain ⟨E, hE⟩ : ∃ E, stepT fold s.data.toList t i = E := ⟨_, rfl⟩
  have HE : Hid ((backF fold s.data.toList { t with pc := t.pc + 1, pos := t.pos } i.x.toNat).map (fun p => { t with pc := t.pc + 1, pos := p }) = E) := Lib.hid (by rw [← hE]; unfold stepT; simp only []; rw [if_neg (by omega), if_neg (by omega), if_neg (by omega), if_pos ho])
  have HO := Lib.hid ho
  rw [hE]
  clear hE ht ho
  have HSZ := Lib.hid (fun k p => try_size { t with pc := k, pos := p } rv HT.out.sl)
  obtain ⟨pos, hP⟩ : ∃ pos, t.pos = pos := ⟨_, rfl⟩
  obtain ⟨pc, hPC⟩ : ∃ pc, t.pc = pc := ⟨_, rfl⟩
  have kT : w.heap[bT]? = some (.cells (tryC { t with pc := pc, pos := pos } rv) 82 (0, 0)) := by rw [← hP, ← hPC]; exact kT
  have HP := Lib.hid hP
  have HPC := Lib.hid hPC
  rw [hP] at hp
  try rw [hP] at HE
  rw [hPC] at hpc
  try rw [hPC] at HE
  clear hP hPC
  have hbt := heap_lt kT
  have cP0 := cell_of kT 0 (try_pc { t with pc := pc, pos := pos } rv)
  unfold instC
  have cM := cells_of kM; (try simp only [instC, zzT, zzO, zzS] at cM); have fM := frees_of kM
  go_enter Try.func35, Try.ntmps35
  go_upto_region 2 with (first
    | (have _kk := cP0; ((with_reducible refine stopBx 63 _ rfl ?_); unfold Stop; refine wpList_box_blk rfl 63 _ rfl _ (by go_simp; first | done | exact rfl) #[.int .u8 i.op, .int .u8 i.c, .int .u64 i.set.a0, .int .u64 i.set.a1, .int .u64 i.set.a2, .int .u64 i.set.a3, .int .i64 i.x, .int .i64 i.y] rfl ?_; intro bI wn hbn kn hUn hsn; clear cM fM; have lMI := heap_lt kM; rw [hbn] at lMI; replace kM := hUn.heap kM (fun h => h); have gI : w.heap.size ≤ bI := Nat.le_trans hU0.size (Nat.le_of_eq hbn); have kI := kn; replace hU0 := hU0.then hUn (fun _ _ h => h.elim); replace hz : w.heap.size ≤ wn.heap.size := (by omega); replace kT := hUn.heap kT (fun h => h); replace cP0 := cell_of kT 0 (try_pc { t with pc := pc, pos := pos } rv); clear kn hUn hsn hbn; have cI := cells_of kI; (try simp only [instC, zzT, zzO, zzS] at cI); have fI := frees_of kI; have cM := cells_of kM; (try simp only [instC, zzT, zzO, zzS] at cM); have fM := frees_of kM); clear _kk)
    | ((with_reducible refine stopSt 3 _ _ rfl ?_); unfold Stop; refine wpList_store_blk rfl 3 _ _ rfl bT 0 rfl (.int .i64 ((pc + 1 : Nat) : Int)) (by go_simp; first | done | exact rfl | (congr 1; omega) | omega) (tryC { t with pc := pc, pos := pos } rv) (tryC { t with pc := pc + 1, pos := pos } rv) _ kT (by rw [HSZ.out]; exact (by decide : 0 + 1 ≤ 25)) (by kernel_rfl) rfl (try_set_pc { t with pc := pc, pos := pos } rv (pc + 1)) ?_; intro w1 k1 hu1 hs1))
  have kI1 := hu1.heap kI (fun (e : bI = bT) => by omega)
  have kM1 := hu1.heap kM HNE.out
  have HU1 := Lib.hid (hU0.then hu1 (fun _ _ h => h))
  clear cI fI cM fM kI kM hU0 hz hu1 hs1 cP0 kT
  have i0 := cell_of kI1 0 (v := .int .u8 i.op) rfl
  have i1 := cell_of kI1 1 (v := .int .u8 i.c) rfl
  have i2 := cell_of kI1 2 (v := .int .u64 i.set.a0) rfl
  have i3 := cell_of kI1 3 (v := .int .u64 i.set.a1) rfl
  have i4 := cell_of kI1 4 (v := .int .u64 i.set.a2) rfl
  have i5 := cell_of kI1 5 (v := .int .u64 i.set.a3) rfl
  have i6 := cell_of kI1 6 (v := .int .i64 i.x) rfl
  have i7 := cell_of kI1 7 (v := .int .i64 i.y) rfl
  have d3 := cell_of kM1 3 (v := .string s) rfl
  have cP1 := cell_of k1 1 (try_pos { t with pc := pc + 1, pos := pos } rv)
  have h1 : (i.op == 1) = false := by simp [HO.out]
  have h2 : (i.op == 2) = false := by simp [HO.out]
  have h3 : (i.op == 3) = false := by simp [HO.out]
  have h4 : (i.op == 4) = false := by simp [HO.out]
  have h5 : (i.op == 5) = false := by simp [HO.out]
  have h6 : (i.op == 6) = false := by simp [HO.out]
  have h7 : (i.op == 7) = true := by simp [HO.out]
  have hxn : ∃ n : Nat, i.x = (n : Int) ∧ n < 10 := ⟨i.x.toNat, by omega, by omega⟩
  obtain ⟨n, hn, hn10⟩ := hxn
  rw [hn] at i6
  rw [hn, Int.toNat_natCast] at HE
  have HB := Lib.hid (rback_any bM bT cv tv rv r stp fold s { t with pc := pc + 1, pos := pos } n hn10 ⟨HT.out.sl, hp, HT.out.slot⟩ hs0 kM1 k1)
  obtain ⟨Q, hQ⟩ : ∃ Q, backF fold s.data.toList { t with pc := pc + 1, pos := pos } n = Q := ⟨_, rfl⟩
  rw [hQ] at HB HE
  have e := HE.out
  subst e
  clear HE hn hx hx2 hQ
  cases Q
  · go_wp2_with (first
      | (go_at_call 52; refine HB.out.mono ?_; rintro e w9 ⟨rfl, hu⟩))
    go_ret
    exact ⟨rfl, HU1.out.then hu (fun _ _ h => h)⟩
  · go_wp2_with (first
      | (go_at_call 52; refine HB.out.mono ?_; rintro e w9 ⟨rfl, k9, hu⟩))
    go_ret
    exact ⟨rfl, k9, HU1.out.then hu (fun _ _ h => h)⟩
set_option maxRecDepth 100000 in
set_option maxHeartbeats 8000000 in
theorem rstepG_any {w : World} (bM bT : Nat) (cv tv rv : Value) (r stp : Int) (fold : Bool) (s : ByteArray) (t : TryD) (i : InstD) (ho : i.op = 13) (B : Nat) (hrd : RdsAt w B rv t.rounds) (hx : 0 ≤ i.x) (hx2 : i.x < t.rounds.length) (ht : TryOK s.size t) (hpc : t.pc ≤ 1000000) (hs0 : s.size ≤ 140737488351232)
    (kM : w.heap[bM]? = some (.cells #[cv, .int .i64 r, .bool fold, .string s, tv, .int .i64 stp] 80 (0, 0))) (kT : w.heap[bT]? = some (.cells (tryC t rv) 82 (0, 0))) :
    Calls Try.prog 35 #[.pointer (some ⟨bM, 0, none⟩), .pointer (some ⟨bT, 0, none⟩), .agg (instC i).toArray] w (StepPost w bT 82 rv (stepT fold s.data.toList t i)) := by
  have HL : Hid (s.data.toList.length = s.size) := Lib.hid (by simp)
  have hU0 := Upd.refl (fun k => k = bT) w
  have hz := Nat.le_refl w.heap.size
  have HNE : Hid (bM ≠ bT) := Lib.hid (fun e => by rw [e, kT] at kM; simp at kM)
  have HT := Lib.hid ht
  have HM := Lib.hid kM
  have hp := ht.pos
  obtain ⟨E, hE⟩ : ∃ E, stepT fold s.data.toList t i = E := ⟨_, rfl⟩
  have HE : Hid ((if t.rounds.getD i.x.toNat 0 = t.pos then none else some { t with pc := t.pc + 1, pos := t.pos }) = E) := Lib.hid (by rw [← hE]; unfold stepT; simp only []; rw [if_neg (show ¬ (i.op = 1 ∨ i.op = 2 ∨ i.op = 3) by omega), if_neg (show ¬ i.op = 5 by omega), if_neg (show ¬ i.op = 6 by omega), if_neg (show ¬ i.op = 7 by omega), if_pos ho])
  have HRD := Lib.hid hrd
  have HRN : Hid (∀ g, rv.ownBlock = some g → g ≠ bT) := Lib.hid (fun g hg e => by
    rcases hrd.2 with ⟨h0, _⟩ | ⟨g', c, cur, h0, _, hb, _⟩
    · rw [h0] at hg; simp [Value.ownBlock] at hg
    · rw [h0] at hg; simp only [Value.ownBlock, Option.some.injEq] at hg; rw [hg, e, kT] at hb; simp at hb)
  clear hrd
  have HO := Lib.hid ho
  rw [hE]
  clear hE ht ho
  have HSZ := Lib.hid (fun k p => try_size { t with pc := k, pos := p } rv HT.out.sl)
  obtain ⟨pos, hP⟩ : ∃ pos, t.pos = pos := ⟨_, rfl⟩
  obtain ⟨pc, hPC⟩ : ∃ pc, t.pc = pc := ⟨_, rfl⟩
  have kT : w.heap[bT]? = some (.cells (tryC { t with pc := pc, pos := pos } rv) 82 (0, 0)) := by rw [← hP, ← hPC]; exact kT
  have HP := Lib.hid hP
  have HPC := Lib.hid hPC
  rw [hP] at hp
  try rw [hP] at HE
  rw [hPC] at hpc
  try rw [hPC] at HE
  clear hP hPC
  have hbt := heap_lt kT
  have cP0 := cell_of kT 0 (try_pc { t with pc := pc, pos := pos } rv)
  unfold instC
  have cM := cells_of kM; (try simp only [instC, zzT, zzO, zzS] at cM); have fM := frees_of kM
  go_enter Try.func35, Try.ntmps35
  go_upto_region 2 with (first
    | (have _kk := cP0; ((with_reducible refine stopBx 63 _ rfl ?_); unfold Stop; refine wpList_box_blk rfl 63 _ rfl _ (by go_simp; first | done | exact rfl) #[.int .u8 i.op, .int .u8 i.c, .int .u64 i.set.a0, .int .u64 i.set.a1, .int .u64 i.set.a2, .int .u64 i.set.a3, .int .i64 i.x, .int .i64 i.y] rfl ?_; intro bI wn hbn kn hUn hsn; clear cM fM; have lMI := heap_lt kM; rw [hbn] at lMI; replace kM := hUn.heap kM (fun h => h); have gI : w.heap.size ≤ bI := Nat.le_trans hU0.size (Nat.le_of_eq hbn); have kI := kn; replace hU0 := hU0.then hUn (fun _ _ h => h.elim); replace hz : w.heap.size ≤ wn.heap.size := (by omega); replace kT := hUn.heap kT (fun h => h); replace cP0 := cell_of kT 0 (try_pc { t with pc := pc, pos := pos } rv); clear kn hUn hsn hbn; have cI := cells_of kI; (try simp only [instC, zzT, zzO, zzS] at cI); have fI := frees_of kI; have cM := cells_of kM; (try simp only [instC, zzT, zzO, zzS] at cM); have fM := frees_of kM); clear _kk)
    | ((with_reducible refine stopSt 3 _ _ rfl ?_); unfold Stop; refine wpList_store_blk rfl 3 _ _ rfl bT 0 rfl (.int .i64 ((pc + 1 : Nat) : Int)) (by go_simp; first | done | exact rfl | (congr 1; omega) | omega) (tryC { t with pc := pc, pos := pos } rv) (tryC { t with pc := pc + 1, pos := pos } rv) _ kT (by rw [HSZ.out]; exact (by decide : 0 + 1 ≤ 25)) (by kernel_rfl) rfl (try_set_pc { t with pc := pc, pos := pos } rv (pc + 1)) ?_; intro w1 k1 hu1 hs1))
  have kI1 := hu1.heap kI (fun (e : bI = bT) => by omega)
  have kM1 := hu1.heap kM HNE.out
  have HU1 := Lib.hid (hU0.then hu1 (fun _ _ h => h))
  clear cI fI cM fM kI kM hU0 hz hu1 hs1 cP0 kT
  have i0 := cell_of kI1 0 (v := .int .u8 i.op) rfl
  have i1 := cell_of kI1 1 (v := .int .u8 i.c) rfl
  have i2 := cell_of kI1 2 (v := .int .u64 i.set.a0) rfl
  have i3 := cell_of kI1 3 (v := .int .u64 i.set.a1) rfl
  have i4 := cell_of kI1 4 (v := .int .u64 i.set.a2) rfl
  have i5 := cell_of kI1 5 (v := .int .u64 i.set.a3) rfl
  have i6 := cell_of kI1 6 (v := .int .i64 i.x) rfl
  have i7 := cell_of kI1 7 (v := .int .i64 i.y) rfl
  have d3 := cell_of kM1 3 (v := .string s) rfl
  have cP1 := cell_of k1 1 (try_pos { t with pc := pc + 1, pos := pos } rv)
  have h1 : (i.op == 1) = false := by simp [HO.out]
  have h2 : (i.op == 2) = false := by simp [HO.out]
  have h3 : (i.op == 3) = false := by simp [HO.out]
  have h4 : (i.op == 4) = false := by simp [HO.out]
  have h5 : (i.op == 5) = false := by simp [HO.out]
  have h6 : (i.op == 6) = false := by simp [HO.out]
  have h8 : (i.op == 8) = false := by simp [HO.out]
  have h9 : (i.op == 9) = false := by simp [HO.out]
  have h10 : (i.op == 10) = false := by simp [HO.out]
  have h11 : (i.op == 11) = false := by simp [HO.out]
  have h7 : (i.op == 7) = false := by simp [HO.out]
  have h12 : (i.op == 12) = false := by simp [HO.out]
  have h13 : (i.op == 13) = true := by simp [HO.out]
  have hrd1 : RdsAt w1 B rv t.rounds := ownsRow_upd HRD.out HU1.out (fun g hg e => HRN.out g hg e)
  have cR := cell_of k1 24 (try_rounds { t with pc := pc + 1, pos := pos } rv HT.out.sl)
  have hxn : ∃ n : Nat, i.x = (n : Int) ∧ n < t.rounds.length := ⟨i.x.toNat, by omega, by omega⟩
  obtain ⟨n, hn, hnl⟩ := hxn
  rw [hn] at i6
  rw [hn, Int.toNat_natCast] at HE
  rcases hrd1.2 with ⟨_, h0⟩ | ⟨g, c, cur, rfl, _⟩
  · omega
  have hcx := owned_cells hrd1 n (.int .i64 (t.rounds.getD n 0)) (by simp [intsC, hnl, List.getD_eq_getElem?_getD])
  rw [Addr.add_mid, Nat.zero_add] at hcx
  obtain ⟨z, hz9⟩ : ∃ z, t.rounds.getD n 0 = z := ⟨_, rfl⟩
  rw [hz9] at hcx HE
  clear hn hx hx2 hz9 hrd1
  have HK1 := Lib.hid k1
  by_cases hzp : z = (pos : Int)
  · have HE2 := Lib.hid ((if_pos hzp).symm.trans HE.out)
    have e := HE2.out
    subst e
    clear HE HE2
    go_wp2
    first | (refine wq_region_from_still ?_) | (refine wq_region_from (by kernel_rfl) (by kernel_rfl) ?_)
    repeat
      first
        | ((refine WQ_skip (by rfl) ?_); (try simp only [Act.put, zzT, zzO, zzS]))
        | (apply WQ_val (by rfl); (focus (intro w' hC; (have e0 := From.cell hC i6; have e1 := From.cell hC cP1; have e2 := From.cell hC cR; have e3 := From.cell hC hcx); go_simp; (first | done | exact rfl | (rw [if_pos (by omega)]; done) | (exact str_idx (by omega))))); (try simp only [Act.put, zzT, zzO, zzS]))
        | (apply WQ_call (by rfl); (focus (intro w' hC; go_simp; (first | done | exact rfl | exact ⟨rfl, rfl⟩))); (focus (intro w' hC; first | fail)); (try simp only [Act.put, zzT, zzO, zzS]))
    refine WQ_nil ?_
    intro wq hq
    go_wp2
    go_ret
    exact ⟨ret_bool (by simp [hzp]), HU1.out.then (upd_from hq) (fun _ _ h => h.elim)⟩
  · have HE2 := Lib.hid ((if_neg hzp).symm.trans HE.out)
    have e := HE2.out
    subst e
    clear HE HE2
    go_wp2
    first | (refine wq_region_from_still ?_) | (refine wq_region_from (by kernel_rfl) (by kernel_rfl) ?_)
    repeat
      first
        | ((refine WQ_skip (by rfl) ?_); (try simp only [Act.put, zzT, zzO, zzS]))
        | (apply WQ_val (by rfl); (focus (intro w' hC; (have e0 := From.cell hC i6; have e1 := From.cell hC cP1; have e2 := From.cell hC cR; have e3 := From.cell hC hcx); go_simp; (first | done | exact rfl | (rw [if_pos (by omega)]; done) | (exact str_idx (by omega))))); (try simp only [Act.put, zzT, zzO, zzS]))
        | (apply WQ_call (by rfl); (focus (intro w' hC; go_simp; (first | done | exact rfl | exact ⟨rfl, rfl⟩))); (focus (intro w' hC; first | fail)); (try simp only [Act.put, zzT, zzO, zzS]))
    refine WQ_nil ?_
    intro wq hq
    go_wp2
    go_ret
    exact ⟨ret_bool (by simpa using hzp), (upd_from hq).heap HK1.out (fun h => h), HU1.out.then (upd_from hq) (fun _ _ h => h.elim)⟩
set_option maxRecDepth 100000 in
set_option maxHeartbeats 8000000 in
theorem rstepR_any {w : World} (bM bT : Nat) (cv tv rv : Value) (r stp : Int) (fold : Bool) (s : ByteArray) (t : TryD) (i : InstD) (ho : i.op = 12) (B : Nat) (hrd : RdsAt w B rv t.rounds) (hx : 0 ≤ i.x) (hx2 : i.x < t.rounds.length) (ht : TryOK s.size t) (hpc : t.pc ≤ 1000000) (hs0 : s.size ≤ 140737488351232)
    (kM : w.heap[bM]? = some (.cells #[cv, .int .i64 r, .bool fold, .string s, tv, .int .i64 stp] 80 (0, 0))) (kT : w.heap[bT]? = some (.cells (tryC t rv) 82 (0, 0))) :
    Calls Try.prog 35 #[.pointer (some ⟨bM, 0, none⟩), .pointer (some ⟨bT, 0, none⟩), .agg (instC i).toArray] w fun e w' => e = .returned (.bool true) ∧ w'.heap[bT]? = some (.cells (tryC { t with pc := t.pc + 1, pos := t.pos } rv) 82 (0, 0)) ∧ RdsAt w' B rv (t.rounds.set i.x.toNat (t.pos : Int)) ∧ Upd (fun k => k = bT ∨ rv.ownBlock = some k) w w' := by
  have HL : Hid (s.data.toList.length = s.size) := Lib.hid (by simp)
  have hU0 := Upd.refl (fun k => k = bT) w
  have hz := Nat.le_refl w.heap.size
  have HNE : Hid (bM ≠ bT) := Lib.hid (fun e => by rw [e, kT] at kM; simp at kM)
  have HT := Lib.hid ht
  have HM := Lib.hid kM
  have hp := ht.pos
  have HRD := Lib.hid hrd
  have HRN : Hid (∀ g, rv.ownBlock = some g → g ≠ bT) := Lib.hid (fun g hg e => by
    rcases hrd.2 with ⟨h0, _⟩ | ⟨g', c, cur, h0, _, hb, _⟩
    · rw [h0] at hg; simp [Value.ownBlock] at hg
    · rw [h0] at hg; simp only [Value.ownBlock, Option.some.injEq] at hg; rw [hg, e, kT] at hb; simp at hb)
  clear hrd
  have HO := Lib.hid ho
  clear ht ho
  have HSZ := Lib.hid (fun k p => try_size { t with pc := k, pos := p } rv HT.out.sl)
  obtain ⟨pos, hP⟩ : ∃ pos, t.pos = pos := ⟨_, rfl⟩
  obtain ⟨pc, hPC⟩ : ∃ pc, t.pc = pc := ⟨_, rfl⟩
  have kT : w.heap[bT]? = some (.cells (tryC { t with pc := pc, pos := pos } rv) 82 (0, 0)) := by rw [← hP, ← hPC]; exact kT
  have HP := Lib.hid hP
  have HPC := Lib.hid hPC
  rw [hP] at hp ⊢
  rw [hPC] at hpc ⊢
  clear hP hPC
  have hbt := heap_lt kT
  have cP0 := cell_of kT 0 (try_pc { t with pc := pc, pos := pos } rv)
  unfold instC
  have cM := cells_of kM; (try simp only [instC, zzT, zzO, zzS] at cM); have fM := frees_of kM
  go_enter Try.func35, Try.ntmps35
  go_upto_region 2 with (first
    | (have _kk := cP0; ((with_reducible refine stopBx 63 _ rfl ?_); unfold Stop; refine wpList_box_blk rfl 63 _ rfl _ (by go_simp; first | done | exact rfl) #[.int .u8 i.op, .int .u8 i.c, .int .u64 i.set.a0, .int .u64 i.set.a1, .int .u64 i.set.a2, .int .u64 i.set.a3, .int .i64 i.x, .int .i64 i.y] rfl ?_; intro bI wn hbn kn hUn hsn; clear cM fM; have lMI := heap_lt kM; rw [hbn] at lMI; replace kM := hUn.heap kM (fun h => h); have gI : w.heap.size ≤ bI := Nat.le_trans hU0.size (Nat.le_of_eq hbn); have kI := kn; replace hU0 := hU0.then hUn (fun _ _ h => h.elim); replace hz : w.heap.size ≤ wn.heap.size := (by omega); replace kT := hUn.heap kT (fun h => h); replace cP0 := cell_of kT 0 (try_pc { t with pc := pc, pos := pos } rv); clear kn hUn hsn hbn; have cI := cells_of kI; (try simp only [instC, zzT, zzO, zzS] at cI); have fI := frees_of kI; have cM := cells_of kM; (try simp only [instC, zzT, zzO, zzS] at cM); have fM := frees_of kM); clear _kk)
    | ((with_reducible refine stopSt 3 _ _ rfl ?_); unfold Stop; refine wpList_store_blk rfl 3 _ _ rfl bT 0 rfl (.int .i64 ((pc + 1 : Nat) : Int)) (by go_simp; first | done | exact rfl | (congr 1; omega) | omega) (tryC { t with pc := pc, pos := pos } rv) (tryC { t with pc := pc + 1, pos := pos } rv) _ kT (by rw [HSZ.out]; exact (by decide : 0 + 1 ≤ 25)) (by kernel_rfl) rfl (try_set_pc { t with pc := pc, pos := pos } rv (pc + 1)) ?_; intro w1 k1 hu1 hs1))
  have kI1 := hu1.heap kI (fun (e : bI = bT) => by omega)
  have kM1 := hu1.heap kM HNE.out
  have HU1 := Lib.hid (hU0.then hu1 (fun _ _ h => h))
  clear cI fI cM fM kI kM hU0 hz hu1 hs1 cP0 kT
  have i0 := cell_of kI1 0 (v := .int .u8 i.op) rfl
  have i1 := cell_of kI1 1 (v := .int .u8 i.c) rfl
  have i2 := cell_of kI1 2 (v := .int .u64 i.set.a0) rfl
  have i3 := cell_of kI1 3 (v := .int .u64 i.set.a1) rfl
  have i4 := cell_of kI1 4 (v := .int .u64 i.set.a2) rfl
  have i5 := cell_of kI1 5 (v := .int .u64 i.set.a3) rfl
  have i6 := cell_of kI1 6 (v := .int .i64 i.x) rfl
  have i7 := cell_of kI1 7 (v := .int .i64 i.y) rfl
  have d3 := cell_of kM1 3 (v := .string s) rfl
  have cP1 := cell_of k1 1 (try_pos { t with pc := pc + 1, pos := pos } rv)
  have h1 : (i.op == 1) = false := by simp [HO.out]
  have h2 : (i.op == 2) = false := by simp [HO.out]
  have h3 : (i.op == 3) = false := by simp [HO.out]
  have h4 : (i.op == 4) = false := by simp [HO.out]
  have h5 : (i.op == 5) = false := by simp [HO.out]
  have h6 : (i.op == 6) = false := by simp [HO.out]
  have h8 : (i.op == 8) = false := by simp [HO.out]
  have h9 : (i.op == 9) = false := by simp [HO.out]
  have h10 : (i.op == 10) = false := by simp [HO.out]
  have h11 : (i.op == 11) = false := by simp [HO.out]
  have h7 : (i.op == 7) = false := by simp [HO.out]
  have h12 : (i.op == 12) = true := by simp [HO.out]
  have hrd1 : RdsAt w1 B rv t.rounds := ownsRow_upd HRD.out HU1.out (fun g hg e => HRN.out g hg e)
  have cR := cell_of k1 24 (try_rounds { t with pc := pc + 1, pos := pos } rv HT.out.sl)
  have hxn : ∃ n : Nat, i.x = (n : Int) ∧ n < t.rounds.length := ⟨i.x.toNat, by omega, by omega⟩
  obtain ⟨n, hn, hnl⟩ := hxn
  rw [hn] at i6
  have HNN := Lib.hid hn
  rcases hrd1.2 with ⟨_, h0⟩ | ⟨g, c, cur, rfl, hgB, kG, hnc, hcm, hsz, htk⟩
  · omega
  have HFIN : Hid (∀ w9 : World, w9.heap[g]? = some (.cells (cur.setIfInBounds n (.int .i64 (pos : Int))) 3 (0, 0)) → RdsAt w9 B (.slice (some ⟨g, 0, none⟩) t.rounds.length c) (t.rounds.set n (pos : Int))) := Lib.hid (fun w9 k9 => by
    refine ⟨by simp [intsC], .inr ⟨g, c, _, by simp, hgB, k9, by simpa using hnc, hcm, by simpa using hsz, ?_⟩⟩
    simp only [List.length_set, Array.toList_setIfInBounds, intsC, List.map_set, Nat.mul_one] at htk ⊢
    rw [List.take_set, htk])
  have HGN : Hid (g ≠ bT) := Lib.hid (HRN.out g rfl)
  have hsz2 : n + 1 ≤ cur.size := by omega
  have HK1 := Lib.hid k1
  clear hn hx hx2 hrd1 htk hsz hcm
  go_wp2
  refine wp_region_seq (fun v => Upd (fun _ => False) w1 v) (fun i => i != 11) [(0, true), (1, true), (2, true), (3, true), (4, true), (5, true), (6, true), (7, true), (8, true), (9, true), (10, true), (11, false)] (by exact rfl) (by kernel_rfl) (by intro c a d v w h; cases d <;> exact h) ?_
  have hS : Upd (fun _ => False) w1 w1.drew := (Upd.refl _ w1).drew
  iterate 11 (((apply seq_val2 rfl (by rfl); (focus (intro w' hS'; have s0 := hS'.cell i6 (fun h => h); have s1 := hS'.cell cP1 (fun h => h); have s2 := hS'.cell cR (fun h => h); go_simp; (first | done | exact rfl | (rw [if_pos (by omega)]; done)))); (focus exact hS))); (try simp only [Act.put, zzT, zzO, zzS]))
  refine seq_loud2 rfl (fun K hK => ?_)
  rw [if_pos (by rfl)]; refine wp_store_blk 3 _ _ rfl g n (by go_simp; first | done | exact rfl) (.int .i64 (pos : Int)) rfl cur (cur.setIfInBounds n (.int .i64 (pos : Int))) _ (hS.heap kG (fun h => h)) hsz2 (by kernel_rfl) rfl rfl ?_; intro w9 k9 hu9 hs9; refine hK _ _ (fun e => by cases e) ?_; clear hK K
  (try simp only [Act.put, zzT, zzO, zzS])
  refine seq_nil ?_
  go_wp2
  go_ret
  exact ⟨rfl, hu9.heap (hS.heap HK1.out (fun h => h)) (fun e => HGN.out e.symm), (by rw [HNN.out, Int.toNat_natCast]; exact HFIN.out w9 k9), ((HU1.out.mono (fun _ _ h => .inl h)).then hS (fun _ _ h => h.elim)).then hu9 (fun _ _ h => .inr (by rw [h]; rfl))⟩
end Go.Proofs.Ytigbfgmgdfnhcaa
