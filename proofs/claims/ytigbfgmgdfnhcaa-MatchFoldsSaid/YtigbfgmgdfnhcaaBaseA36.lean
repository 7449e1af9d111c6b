/- Lemmas that the law's proof stands on, part 36: Spl, SplR. No condition. -/
import Derived.Test.YtigbfgmgdfnhcaaBaseA0
import Derived.Test.YtigbfgmgdfnhcaaBaseA33
set_option linter.all false
set_option linter.unusedVariables false
set_option linter.unusedSimpArgs false
namespace Go.Proofs.Ytigbfgmgdfnhcaa
open Go.RowKit
set_option maxRecDepth 100000 in
set_option maxHeartbeats 8000000 in
theorem stepS_any {w : World} (bM bT B : Nat) (cv tv rv : Value) (r : Int) (fold : Bool) (s : ByteArray) (t : TryD) (i : InstD) (ts : List TryD) (vs : List Value) (ho : i.op = 4)
    (hrd : RdsAt w B rv t.rounds) (hrl : t.rounds.length ≤ 2000) (hown : w.ownsRow B 54 25 tv ts.length (triesC ts vs)) (htl : ts.length ≤ 100000) (hne : ∀ g, tv.ownBlock = some g → g ≠ bT) (hvl : ts.length = vs.length) (hB : B ≤ w.heap.size)
    (hx : 0 ≤ i.x) (hx2 : i.x ≤ 1000000) (hy : 0 ≤ i.y) (hy2 : i.y ≤ 1000000) (ht : TryOK s.size t) (hpc : t.pc ≤ 1000000)
    (kM : w.heap[bM]? = some (.cells #[cv, .int .i64 r, .bool fold, .string s, tv] 58 (0, 0))) (kT : w.heap[bT]? = some (.cells (tryC t rv) 54 (0, 0))) :
    Calls Try.prog 27 #[.pointer (some ⟨bM, 0, none⟩), .pointer (some ⟨bT, 0, none⟩), .agg (instC i).toArray] w (SplPost w bM bT B (fun v => #[cv, .int .i64 r, .bool fold, .string s, v]) 58 54 rv t { t with pc := i.x.toNat } ts { t with pc := i.y.toNat } vs tv) := by
  have hU0 := Upd.refl (fun k => k = bT) w
  have hz := Nat.le_refl w.heap.size
  have HNE : Hid (bM ≠ bT) := Lib.hid (fun e => by rw [e, kT] at kM; simp at kM)
  have HNM : Hid (∀ g, tv.ownBlock = some g → g ≠ bM) := Lib.hid (fun g hg e => by
    rcases hown.2 with ⟨h0, _⟩ | ⟨g', c, cur, h0, _, hb, _⟩
    · rw [h0] at hg; simp [Value.ownBlock] at hg
    · rw [h0] at hg; simp only [Value.ownBlock, Option.some.injEq] at hg; rw [hg, e, kM] at hb; simp at hb)
  have HRN : Hid (∀ g, rv.ownBlock = some g → g ≠ bT) := Lib.hid (fun g hg e => by
    rcases hrd.2 with ⟨h0, _⟩ | ⟨g', c, cur, h0, _, hb, _⟩
    · rw [h0] at hg; simp [Value.ownBlock] at hg
    · rw [h0] at hg; simp only [Value.ownBlock, Option.some.injEq] at hg; rw [hg, e, kT] at hb; simp at hb)
  have HRG : Hid (∀ g, rv.ownBlock = some g → g < w.heap.size) := Lib.hid (fun g hg => (hrd.lt g hg).2)
  have HTG : Hid (∀ g, tv.ownBlock = some g → g < w.heap.size) := Lib.hid (fun g hg => (hown.lt g hg).2)
  have HONE0 := Lib.hid hrd.one
  have HNT := Lib.hid hne
  have HRD := Lib.hid hrd
  have HOWN := Lib.hid hown
  have HT := Lib.hid ht
  have hp := ht.pos
  have HSL := Lib.hid ht.sl
  have HO := Lib.hid ho
  have HVL := Lib.hid hvl
  have hlM := heap_lt kM
  have HSZ := Lib.hid (fun k p => try_size { t with pc := k, pos := p } rv HT.out.sl)
  obtain ⟨pos, hP⟩ : ∃ pos, t.pos = pos := ⟨_, rfl⟩
  obtain ⟨pc, hPC⟩ : ∃ pc, t.pc = pc := ⟨_, rfl⟩
  have kT : w.heap[bT]? = some (.cells (tryC { t with pc := pc, pos := pos } rv) 54 (0, 0)) := by rw [← hP, ← hPC]; exact kT
  have HP := Lib.hid hP
  rw [hPC] at hpc
  clear hP hPC ht ho hrd hown hne hvl hp
  have hbt := heap_lt kT
  have cP0 := cell_of kT 0 (try_pc { t with pc := pc, pos := pos } rv)
  unfold instC
  have cM := cells_of kM; (try simp only [instC, zzT, zzO, zzS] at cM); have fM := frees_of kM
  go_enter Try.func27, Try.ntmps27
  go_upto_region 2 with (first
    | (have _kk := cP0; ((with_reducible refine stopBx 63 _ rfl ?_); unfold Stop; refine wpList_box_blk rfl 63 _ rfl _ (by go_simp; first | done | exact rfl) #[.int .u8 i.op, .int .u8 i.c, .int .u64 i.set.a0, .int .u64 i.set.a1, .int .u64 i.set.a2, .int .u64 i.set.a3, .int .i64 i.x, .int .i64 i.y] rfl ?_; intro bI wn hbn kn hUn hsn; clear cM fM; have lMI := heap_lt kM; rw [hbn] at lMI; replace kM := hUn.heap kM (fun h => h); have gI : w.heap.size ≤ bI := Nat.le_trans hU0.size (Nat.le_of_eq hbn); have kI := kn; replace hU0 := hU0.then hUn (fun _ _ h => h.elim); replace hz : w.heap.size ≤ wn.heap.size := (by omega); replace kT := hUn.heap kT (fun h => h); replace cP0 := cell_of kT 0 (try_pc { t with pc := pc, pos := pos } rv); clear kn hUn hsn hbn; have cI := cells_of kI; (try simp only [instC, zzT, zzO, zzS] at cI); have fI := frees_of kI; have cM := cells_of kM; (try simp only [instC, zzT, zzO, zzS] at cM); have fM := frees_of kM); clear _kk)
    | ((with_reducible refine stopSt 3 _ _ rfl ?_); unfold Stop; refine wpList_store_blk rfl 3 _ _ rfl bT 0 rfl (.int .i64 ((pc + 1 : Nat) : Int)) (by go_simp; first | done | exact rfl | (congr 1; omega) | omega) (tryC { t with pc := pc, pos := pos } rv) (tryC { t with pc := pc + 1, pos := pos } rv) _ kT (by rw [HSZ.out]; exact (by decide : 0 + 1 ≤ 25)) (by kernel_rfl) rfl (try_set_pc { t with pc := pc, pos := pos } rv (pc + 1)) ?_; intro w1 k1 hu1 hs1))
  have kI1 := hu1.heap kI (fun (e : bI = bT) => by omega)
  have kM1 := hu1.heap kM HNE.out
  have HU1 := Lib.hid (hU0.then hu1 (fun _ _ h => h))
  clear cI fI cM fM kI kM hU0 hz hu1 hs1 cP0 kT
  have i0 := cell_of kI1 0 (v := .int .u8 i.op) rfl
  have i6 := cell_of kI1 6 (v := .int .i64 i.x) rfl
  have i7 := cell_of kI1 7 (v := .int .i64 i.y) rfl
  have h1 : (i.op == 1) = false := by simp [HO.out]
  have h2 : (i.op == 2) = false := by simp [HO.out]
  have h3 : (i.op == 3) = false := by simp [HO.out]
  have h4 : (i.op == 4) = true := by simp [HO.out]
  obtain ⟨T1, hT1⟩ : ∃ T1, ({ t with pc := pc + 1, pos := pos } : TryD) = T1 := ⟨_, rfl⟩
  have HTS : Hid (T1.slots = t.slots ∧ T1.rounds = t.rounds ∧ T1.pos = t.pos) := Lib.hid (by rw [← hT1]; exact ⟨rfl, rfl, HP.out.symm⟩)
  rw [hT1] at k1
  clear hT1
  have HINF : Hid (∀ (k : Nat) (v : Value), (Try.prog.info? 54).map (·.size) = some (tryC { T1 with pc := k } v).size) := Lib.hid (fun k v => by rw [try_size _ _ (show ({ T1 with pc := k } : TryD).slots.length = 22 by rw [show ({ T1 with pc := k } : TryD).slots = T1.slots from rfl, HTS.out.1]; exact HSL.out)]; kernel_rfl)
  have HSZ1 : Hid (∀ (k : Nat) (v : Value), (tryC { T1 with pc := k } v).size = 25) := Lib.hid (fun k v => try_size _ _ (show ({ T1 with pc := k } : TryD).slots.length = 22 by rw [show ({ T1 with pc := k } : TryD).slots = T1.slots from rfl, HTS.out.1]; exact HSL.out))
  have HSPL : Hid (spl (tryC zeroTry (.slice none 0 0)) 0 (Value.agg (tryC T1 rv)).cells.toList = tryC T1 rv) := Lib.hid (by
    have e : (Value.agg (tryC T1 rv)).cells.toList = tryL T1 rv := rfl
    rw [e, spl_all _ _ (by have := HSZ1.out T1.pc rv; simp only [tryC, List.size_toArray] at this; rw [this]; decide)]
    rfl)
  have HONE1 : Hid ((Value.agg (tryC T1 rv)).cells.toList.all (·.oneCell') = true) := Lib.hid (List.all_eq_true.2 (fun u hu => tryL_one HONE0.out u hu))
  have HLE : Hid (0 + (Value.agg (tryC T1 rv)).cells.size ≤ (tryC zeroTry (.slice none 0 0)).size) := Lib.hid (by
    have e : (Value.agg (tryC T1 rv)).cells.size = (tryC { T1 with pc := T1.pc } rv).size := rfl
    rw [e, HSZ1.out]; decide)
  have hbI := heap_lt kI1
  have hbM := heap_lt kM1
  have hbT := heap_lt k1
  have hsz1 := HU1.out.size
  go_upto_region 12 with (first
    | ((with_reducible refine stopLd 54 _ rfl ?_); unfold Stop; refine wpList_load_row rfl 54 _ rfl _ rfl 54 _ (0, 0) _ k1 Try.underlying54 rfl (HINF.out T1.pc rv) ?_)
    | ((with_reducible refine stopAl 54 rfl ?_); unfold Stop; refine wpList_alloc_blk rfl 54 rfl (.agg (tryC zeroTry (.slice none 0 0))) (by kernel_rfl) _ rfl ?_; intro bO w2 hbO kO hU2 hs2)
    | ((with_reducible refine stopSt 54 _ _ rfl ?_); unfold Stop; refine wpList_store_blk rfl 54 _ _ rfl bO 0 rfl (.agg (tryC T1 rv)) rfl (tryC zeroTry (.slice none 0 0)) (tryC T1 rv) _ kO HLE.out (HINF.out T1.pc rv) HONE1.out HSPL.out ?_; intro w3 k3 hu3 hs3))
  have hnI : ¬ bI = bO := by omega
  have hnM : ¬ bM = bO := by omega
  have hnT : ¬ bT = bO := by omega
  have HU3 := Lib.hid ((HU1.out.then hU2 (fun _ _ h => h.elim)).then hu3 (fun k hk (e : k = bO) => by omega))
  have HG3 : Hid (∀ g, g < w.heap.size → ¬ g = bO) := Lib.hid (fun g hg e => by omega)
  have kI3 := hu3.heap (hU2.heap kI1 (fun h => h)) hnI
  have kM3 := hu3.heap (hU2.heap kM1 (fun h => h)) hnM
  have k13 := hu3.heap (hU2.heap k1 (fun h => h)) hnT
  have HRD3 := Lib.hid (ownsRow_upd HRD.out HU3.out (fun g hg e => HRN.out g hg e))
  have HOWN3 := Lib.hid (ownsRow_upd HOWN.out HU3.out (fun g hg e => HNT.out g hg e))
  have hlt3 : w.heap.size ≤ w3.heap.size := HU3.out.size
  have hb3 : w.heap.size ≤ bO := by omega
  clear kI1 kM1 k1 kO hU2 hs2 hu3 hs3 i0 i6 i7 hbO
  have i7 := cell_of kI3 7 (v := .int .i64 i.y) rfl
  have cR := cell_of k13 24 (try_rounds T1 rv (by rw [HTS.out.1]; exact HSL.out))
  obtain ⟨i0, hi, hz0, hz3, hz4⟩ := info_parts info_try
  refine wp_region_seq (fun v => Upd (fun k => k = bO) w3 v) (fun i => i != 10) [(0, true), (1, true), (2, true), (3, true), (4, true), (5, true), (7, true), (6, false), (8, false), (9, true), (10, false)] (by exact rfl) (by kernel_rfl) (by intro c a d v w h; cases d <;> exact h) ?_
  have hS : Upd (fun k => k = bO) w3 w3.drew := (Upd.refl _ w3).drew
  iterate 7 (((apply seq_val2 rfl (by rfl); (focus (intro w' hS'; have s7 := hS'.cell i7 hnI; have s24 := hS'.cell cR hnT; go_simp; (first | done | exact rfl | (rw [if_pos (by omega)]; done)))); (focus exact hS))); (try simp only [Act.put, zzT, zzO, zzS]))
  apply seq_call2 (fun v w' => RdsAt w' w3.heap.size v t.rounds ∧ Upd (fun _ => False) w3.drew w') rfl (by rfl)
  focus (go_simp; (first | done | exact rfl | exact ⟨rfl, rfl⟩))
  focus (refine (clone_any (w := w3.drew) HRD3.out.drew hrl).mono ?_; rintro e w' ⟨v', rfl, h1, h2⟩; exact ⟨v', rfl, h1, h2⟩)
  rintro rv2 w4 ⟨hrd4, hu4⟩; have HS4 := Lib.hid (hS.then hu4 (fun _ _ h => h.elim)); have HS0 := Lib.hid (((Upd.refl (fun _ => False) w3).drew).then hu4 (fun _ _ h => h.elim)); have HRD4 := Lib.hid hrd4; clear hS hrd4 hu4; refine ⟨fun _ => HS4.out, ?_⟩; have hS := HS4.out; have k34 := HS0.out.heap k3 (fun h => h)
  (try simp only [Act.put, zzT, zzO, zzS])
  refine seq_loud2 rfl (fun K hK => ?_)
  rw [if_pos (by rfl)]; refine wp_store_blk 3 _ _ rfl bO 0 (by go_simp; first | done | exact rfl) (.int .i64 ((i.y.toNat : Nat) : Int)) (by go_simp; first | done | exact rfl | (congr 1; omega) | omega) (tryC T1 rv) (tryC { T1 with pc := i.y.toNat } rv) _ k34 (by rw [show tryC T1 rv = tryC { T1 with pc := T1.pc } rv from rfl, HSZ1.out]; exact (by decide : 0 + 1 ≤ 25)) (by kernel_rfl) rfl (try_set_pc T1 rv i.y.toNat) ?_; intro w5 k5 hu5 hs5; have hS5 := hS.then hu5 (fun _ _ h => h); clear hS; have hS := hS5; clear hS5; refine hK _ _ (fun _ => hS) ?_; clear hK K
  (try simp only [Act.put, zzT, zzO, zzS])
  (apply seq_val2 rfl (by rfl); (focus (intro w' hS'; have s7 := hS'.cell i7 hnI; have s24 := hS'.cell cR hnT; go_simp; (first | done | exact rfl | (rw [if_pos (by omega)]; done)))); (focus exact hS))
  (try simp only [Act.put, zzT, zzO, zzS])
  refine seq_loud2 rfl (fun K hK => ?_)
  rw [if_pos (by rfl)]; refine wp_store_blk 51 _ _ rfl bO 24 (by go_simp; first | done | exact rfl) rv2 (by go_simp; first | done | exact rfl) (tryC { T1 with pc := i.y.toNat } rv) (tryC { T1 with pc := i.y.toNat } rv2) _ k5 (by rw [HSZ1.out, rds_cells HRD4.out]; exact (by decide : 24 + 1 ≤ 25)) (by rw [rds_cells HRD4.out]; kernel_rfl) (by rw [rds_cells HRD4.out]; exact rds_all HRD4.out) (by rw [rds_cells HRD4.out]; exact try_set_rounds { T1 with pc := i.y.toNat } rv rv2 (by rw [show ({ T1 with pc := i.y.toNat } : TryD).slots = T1.slots from rfl, HTS.out.1]; exact HSL.out)) ?_; intro w6 k6 hu6 hs6; have hS6 := hS.then hu6 (fun _ _ h => h); clear hS; have hS := hS6; clear hS6; refine hK _ _ (fun e => by cases e) ?_; clear hK K
  (try simp only [Act.put, zzT, zzO, zzS])
  refine seq_nil ?_
  have HRD6 : Hid (RdsAt w6 w3.heap.size rv2 t.rounds) := Lib.hid (ownsRow_upd HRD4.out (hu5.then hu6 (fun _ _ h => h)) (fun g hg e => by have := (HRD4.out.lt g hg).1; have := heap_lt k3; omega))
  have HR2 : Hid (∀ g, rv2.ownBlock = some g → w3.heap.size ≤ g) := Lib.hid (fun g hg => (HRD4.out.lt g hg).1)
  clear hu5 hu6 hs5 hs6 k5 k34 HS4 HS0 HRD4
  go_upto_region 13 with fail
  obtain ⟨Y, hY⟩ : ∃ Y, ({ T1 with pc := i.y.toNat } : TryD) = Y := ⟨_, rfl⟩
  have HY : Hid (Y = { t with pc := i.y.toNat }) := Lib.hid (by rw [← hY]; obtain ⟨e1, e2, e3⟩ := HTS.out; cases T1; cases t; simp only at e1 e2 e3; simp [e1, e2, e3])
  have HSY : Hid (∀ v, (tryC Y v).size = 25) := Lib.hid (by rw [← hY]; exact HSZ1.out _)
  have HIY : Hid (∀ v, (Try.prog.info? 54).map (·.size) = some (tryC Y v).size) := Lib.hid (by rw [← hY]; exact HINF.out _)
  rw [hY] at k6
  clear hY
  have hSS : Upd (fun k => k = bO) w3 w6 := hS
  have HU6 := Lib.hid (HU3.out.then hSS (fun k hk (e : k = bO) => by omega))
  have kI6 := hSS.heap kI3 hnI
  have kM6 := hSS.heap kM3 hnM
  have k16 := hSS.heap k13 hnT
  have HOWN6 := Lib.hid (ownsRow_upd HOWN3.out hSS (fun g hg e => HG3.out g (HTG.out g hg) e))
  have hlt6 : w3.heap.size ≤ w6.heap.size := hSS.size
  have HONE2 := Lib.hid HRD6.out.one
  have HNMO : Hid (¬ tv.ownBlock = some bM) := Lib.hid (fun e => HNM.out bM e rfl)
  have HNTO : Hid (¬ tv.ownBlock = some bT) := Lib.hid (fun e => HNT.out bT e rfl)
  have HNOO : Hid (¬ tv.ownBlock = some bO) := Lib.hid (fun e => HG3.out bO (HTG.out bO e) rfl)
  have HNIO : Hid (¬ tv.ownBlock = some bI) := Lib.hid (fun e => by have := HTG.out bI e; omega)
  have HLT6 : Hid (∀ g, tv.ownBlock = some g → g < w6.heap.size) := Lib.hid (fun g hg => by have := HTG.out g hg; omega)
  clear hS hSS kI3 kM3 k13 i7 cR
  have c4 := cell_of kM6 4 (v := tv) rfl
  refine wp_region_seq (fun v => Upd (fun k => tv.ownBlock = some k) w6 v) (fun i => i != 10) [(0, true), (1, true), (2, true), (3, true), (4, true), (5, true), (6, false), (7, false), (8, true), (9, true), (10, false)] (by exact rfl) (by kernel_rfl) (by intro c a d v w h; cases d <;> exact h) ?_
  have hS : Upd (fun k => tv.ownBlock = some k) w6 w6.drew := (Upd.refl _ w6).drew
  iterate 5 (((apply seq_val2 rfl (by rfl); (focus (intro w' hS'; have s4 := hS'.cell c4 HNMO.out; go_simp; (first | done | exact rfl | (rw [if_pos (by omega)]; done)))); (focus exact hS))); (try simp only [Act.put, zzT, zzO, zzS]))
  (apply seq_val2 rfl (by rfl); (focus (intro w' hS'; have s4 := hS'.cell c4 HNMO.out; exact exec_load_blk 54 _ rfl bO rfl 54 (tryC Y rv2) (0, 0) _ (hS'.heap k6 HNOO.out) Try.underlying54 rfl (HIY.out rv2))); (focus exact hS))
  (try simp only [Act.put, zzT, zzO, zzS])
  refine seq_loud2 rfl (fun K hK => ?_)
  rw [if_pos (by rfl)]; refine wp_slice1_blk 56 54 _ rfl Try.underlying56 i0 _ (.agg (tryC Y rv2)) 25 hi hz0 hz3 (by decide) (by decide) _ rfl rfl (tryC Y rv2) rfl (HSY.out rv2) ?_; intro bL w7 hbL kL hu7 hs7; have HS0 := Lib.hid (((Upd.refl (fun _ => False) w6).drew).then hu7 (fun _ _ h => h)); have hS7 := hS.then hu7 (fun _ _ h => h.elim); clear hS; have hS := hS7; clear hS7; have hl7 : w6.heap.size ≤ w7.heap.size := HS0.out.size; refine hK _ _ (fun _ => hS) ?_; clear hK K
  (try simp only [Act.put, zzT, zzO, zzS])
  refine seq_loud2 rfl (fun K hK => ?_)
  rw [if_pos (by rfl)]; refine wp_append_own2 _ _ _ 56 rfl B 54 i0 _ 25 216 Try.underlying56 hi hz0 hz3 hz4 rfl (by decide) tv ts.length (triesC ts vs) rfl (ownsRow_upd HOWN6.out HS0.out (fun _ _ h => h)) ⟨bL, 0, none⟩ 1 1 (tryL Y rv2) rfl (by have := HSY.out rv2; simp only [tryC, List.size_toArray] at this; rw [this]) (blk_cells kL) (tryL_one HONE2.out) (by unfold maxLen; omega) (by omega) (by omega) ?_; intro v3 w8 ho3 hg3 hn3; have hS3 : Upd (fun k => tv.ownBlock = some k) w6 w8 := hS.grown hg3 (fun k _ e => e); clear hS; have hS := hS3; clear hS3; obtain ⟨g4, c4', rfl⟩ := own_form25 ho3; have HO3 := Lib.hid ho3; have HN3 := Lib.hid hn3; have kM8 := hS.heap kM6 HNMO.out; have hlt8 := hg3.size; clear ho3 hn3 hg3; refine hK _ _ (fun _ => hS) ?_; clear hK K
  (try simp only [Act.put, zzT, zzO, zzS])
  iterate 2 (((apply seq_val2 rfl (by rfl); (focus (intro w' hS'; have s4 := hS'.cell c4 HNMO.out; go_simp; (first | done | exact rfl | (rw [if_pos (by omega)]; done)))); (focus exact hS))); (try simp only [Act.put, zzT, zzO, zzS]))
  refine seq_loud2 rfl (fun K hK => ?_)
  rw [if_pos (by rfl)]; refine wp_store_blk 56 _ _ rfl bM 4 (by go_simp; first | done | exact rfl) (.slice (some ⟨g4, 0, none⟩) (ts.length + 1) c4') (by go_simp; first | done | exact rfl) #[cv, .int .i64 r, .bool fold, .string s, tv] #[cv, .int .i64 r, .bool fold, .string s, (.slice (some ⟨g4, 0, none⟩) (ts.length + 1) c4')] _ kM8 (zzB rfl) (by kernel_rfl) rfl (by simp only [spl, Value.cells, zzT, zzO, zzS, Array.toList]; first | done | exact rfl) ?_; intro w9 k9 hu9 hs9; refine hK _ _ (fun e => by cases e) ?_; clear hK K
  (try simp only [Act.put, zzT, zzO, zzS])
  refine seq_nil ?_
  have HG4 : Hid (g4 ≠ bM ∧ g4 ≠ bT) := Lib.hid (by
    rcases HN3.out with h3 | h3
    · exact ⟨fun e => HNMO.out (by rw [← h3, ← e]; rfl), fun e => HNTO.out (by rw [← h3, ← e]; rfl)⟩
    · simp only [Value.ownBlock, Option.some.injEq] at h3
      have := HS0.out.size
      omega)
  have kI9 := hu9.heap (hS.heap kI6 HNIO.out) (show ¬ bI = bM by omega)
  have kT9 := hu9.heap (hS.heap k16 HNTO.out) (fun e => HNE.out e.symm)
  have HU9 : Hid (Upd (fun k => k = bM ∨ k = bT ∨ tv.ownBlock = some k) w w9) := Lib.hid (((HU6.out.mono (fun _ _ e => .inr (.inl e))).then hS (fun _ _ e => .inr (.inr e))).then hu9 (fun _ _ e => .inl e))
  have HO9 : Hid (w9.ownsRow B 54 25 (.slice (some ⟨g4, 0, none⟩) (ts.length + 1) c4') (ts.length + 1) (triesC ts vs ++ tryL Y rv2)) := Lib.hid (ownsRow_upd HO3.out hu9 (fun g hg e => by simp only [Value.ownBlock, Option.some.injEq] at hg; exact HG4.out.1 (hg.trans e)))
  have HR9 : Hid (RdsAt w9 w3.heap.size rv2 t.rounds) := Lib.hid (by
    have h6 := HRD6.out
    have hl : ∀ g, rv2.ownBlock = some g → g < w6.heap.size := fun g hg => (h6.lt g hg).2
    exact ownsRow_upd (ownsRow_upd h6 hS (fun g hg e => by have := HTG.out g e; have := HR2.out g hg; omega)) hu9 (fun g hg e => by have := HR2.out g hg; omega))
  have HN9 : Hid (some g4 = tv.ownBlock ∨ w.heap.size ≤ g4) := Lib.hid (by
    rcases HN3.out with h3 | h3
    · exact .inl h3
    · right; simp only [Value.ownBlock, Option.some.injEq] at h3; have := HS0.out.size; omega)
  have HSZT := Lib.hid (HSZ1.out T1.pc rv)
  clear hu9 hs9 hS kI6 kM6 k16 c4 kM8 kL hu7 hs7
  have i6 := cell_of kI9 6 (v := .int .i64 i.x) rfl
  have fT := frees_of kT9
  go_wp2_with (first | ((with_reducible refine stopSt 3 _ _ rfl ?_); unfold Stop; refine wpList_store_blk rfl 3 _ _ rfl bT 0 rfl (.int .i64 ((i.x.toNat : Nat) : Int)) (by go_simp; first | done | exact rfl | (congr 1; omega) | omega) (tryC T1 rv) (tryC { T1 with pc := i.x.toNat } rv) _ kT9 (by rw [show tryC T1 rv = tryC { T1 with pc := T1.pc } rv from rfl, HSZT.out]; exact (by decide : 0 + 1 ≤ 25)) (by kernel_rfl) rfl (try_set_pc T1 rv i.x.toNat) ?_; intro wF kF huF hsF))
  go_ret
  have hX : ({ T1 with pc := i.x.toNat } : TryD) = { t with pc := i.x.toNat } := by obtain ⟨e1, e2, e3⟩ := HTS.out; cases T1; cases t; simp only at e1 e2 e3; simp [e1, e2, e3]
  refine ⟨rfl, _, rv2, huF.heap k9 HNE.out, by rw [← hX]; exact kF, ?_, ?_, ?_, HU9.out.then huF (fun _ _ e => .inr (.inl e))⟩
  · rw [triesC_snoc _ _ _ _ HVL.out, ← HY.out]
    exact ownsRow_upd HO9.out huF (fun g hg e => by simp only [Value.ownBlock, Option.some.injEq] at hg; exact HG4.out.2 (hg.trans e))
  · have h9 := ownsRow_upd HR9.out huF (fun g hg e => by have := HR2.out g hg; omega)
    exact RdsAt.base h9 hlt3
  · rcases HN9.out with h | h
    · exact .inl h
    · exact .inr ⟨g4, rfl, h⟩
end Go.Proofs.Ytigbfgmgdfnhcaa
namespace Go.Proofs.Ytigbfgmgdfnhcaa
open Go.RowKit
set_option maxRecDepth 100000 in
set_option maxHeartbeats 8000000 in
theorem rstepS_any {w : World} (bM bT B : Nat) (cv tv rv : Value) (r stp : Int) (fold : Bool) (s : ByteArray) (t : TryD) (i : InstD) (ts : List TryD) (vs : List Value) (ho : i.op = 4)
    (hrd : RdsAt w B rv t.rounds) (hrl : t.rounds.length ≤ 2000) (hown : w.ownsRow B 82 25 tv ts.length (triesC ts vs)) (htl : ts.length ≤ 100000) (hne : ∀ g, tv.ownBlock = some g → g ≠ bT) (hvl : ts.length = vs.length) (hB : B ≤ w.heap.size)
    (hx : 0 ≤ i.x) (hx2 : i.x ≤ 1000000) (hy : 0 ≤ i.y) (hy2 : i.y ≤ 1000000) (ht : TryOK s.size t) (hpc : t.pc ≤ 1000000)
    (kM : w.heap[bM]? = some (.cells #[cv, .int .i64 r, .bool fold, .string s, tv, .int .i64 stp] 80 (0, 0))) (kT : w.heap[bT]? = some (.cells (tryC t rv) 82 (0, 0))) :
    Calls Try.prog 35 #[.pointer (some ⟨bM, 0, none⟩), .pointer (some ⟨bT, 0, none⟩), .agg (instC i).toArray] w (SplPost w bM bT B (fun v => #[cv, .int .i64 r, .bool fold, .string s, v, .int .i64 stp]) 80 82 rv t { t with pc := i.x.toNat } ts { t with pc := i.y.toNat } vs tv) := by
  have hU0 := Upd.refl (fun k => k = bT) w
  have hz := Nat.le_refl w.heap.size
  have HNE : Hid (bM ≠ bT) := Lib.hid (fun e => by rw [e, kT] at kM; simp at kM)
  have HNM : Hid (∀ g, tv.ownBlock = some g → g ≠ bM) := Lib.hid (fun g hg e => by
    rcases hown.2 with ⟨h0, _⟩ | ⟨g', c, cur, h0, _, hb, _⟩
    · rw [h0] at hg; simp [Value.ownBlock] at hg
    · rw [h0] at hg; simp only [Value.ownBlock, Option.some.injEq] at hg; rw [hg, e, kM] at hb; simp at hb)
  have HRN : Hid (∀ g, rv.ownBlock = some g → g ≠ bT) := Lib.hid (fun g hg e => by
    rcases hrd.2 with ⟨h0, _⟩ | ⟨g', c, cur, h0, _, hb, _⟩
    · rw [h0] at hg; simp [Value.ownBlock] at hg
    · rw [h0] at hg; simp only [Value.ownBlock, Option.some.injEq] at hg; rw [hg, e, kT] at hb; simp at hb)
  have HRG : Hid (∀ g, rv.ownBlock = some g → g < w.heap.size) := Lib.hid (fun g hg => (hrd.lt g hg).2)
  have HTG : Hid (∀ g, tv.ownBlock = some g → g < w.heap.size) := Lib.hid (fun g hg => (hown.lt g hg).2)
  have HONE0 := Lib.hid hrd.one
  have HNT := Lib.hid hne
  have HRD := Lib.hid hrd
  have HOWN := Lib.hid hown
  have HT := Lib.hid ht
  have hp := ht.pos
  have HSL := Lib.hid ht.sl
  have HO := Lib.hid ho
  have HVL := Lib.hid hvl
  have hlM := heap_lt kM
  have HSZ := Lib.hid (fun k p => try_size { t with pc := k, pos := p } rv HT.out.sl)
  obtain ⟨pos, hP⟩ : ∃ pos, t.pos = pos := ⟨_, rfl⟩
  obtain ⟨pc, hPC⟩ : ∃ pc, t.pc = pc := ⟨_, rfl⟩
  have kT : w.heap[bT]? = some (.cells (tryC { t with pc := pc, pos := pos } rv) 82 (0, 0)) := by rw [← hP, ← hPC]; exact kT
  have HP := Lib.hid hP
  rw [hPC] at hpc
  clear hP hPC ht ho hrd hown hne hvl hp
  have hbt := heap_lt kT
  have cP0 := cell_of kT 0 (try_pc { t with pc := pc, pos := pos } rv)
  unfold instC
  have cM := cells_of kM; (try simp only [instC, zzT, zzO, zzS] at cM); have fM := frees_of kM
  go_enter Try.func35, Try.ntmps35
  go_upto_region 2 with (first
    | (have _kk := cP0; ((with_reducible refine stopBx 63 _ rfl ?_); unfold Stop; refine wpList_box_blk rfl 63 _ rfl _ (by go_simp; first | done | exact rfl) #[.int .u8 i.op, .int .u8 i.c, .int .u64 i.set.a0, .int .u64 i.set.a1, .int .u64 i.set.a2, .int .u64 i.set.a3, .int .i64 i.x, .int .i64 i.y] rfl ?_; intro bI wn hbn kn hUn hsn; clear cM fM; have lMI := heap_lt kM; rw [hbn] at lMI; replace kM := hUn.heap kM (fun h => h); have gI : w.heap.size ≤ bI := Nat.le_trans hU0.size (Nat.le_of_eq hbn); have kI := kn; replace hU0 := hU0.then hUn (fun _ _ h => h.elim); replace hz : w.heap.size ≤ wn.heap.size := (by omega); replace kT := hUn.heap kT (fun h => h); replace cP0 := cell_of kT 0 (try_pc { t with pc := pc, pos := pos } rv); clear kn hUn hsn hbn; have cI := cells_of kI; (try simp only [instC, zzT, zzO, zzS] at cI); have fI := frees_of kI; have cM := cells_of kM; (try simp only [instC, zzT, zzO, zzS] at cM); have fM := frees_of kM); clear _kk)
    | ((with_reducible refine stopSt 3 _ _ rfl ?_); unfold Stop; refine wpList_store_blk rfl 3 _ _ rfl bT 0 rfl (.int .i64 ((pc + 1 : Nat) : Int)) (by go_simp; first | done | exact rfl | (congr 1; omega) | omega) (tryC { t with pc := pc, pos := pos } rv) (tryC { t with pc := pc + 1, pos := pos } rv) _ kT (by rw [HSZ.out]; exact (by decide : 0 + 1 ≤ 25)) (by kernel_rfl) rfl (try_set_pc { t with pc := pc, pos := pos } rv (pc + 1)) ?_; intro w1 k1 hu1 hs1))
  have kI1 := hu1.heap kI (fun (e : bI = bT) => by omega)
  have kM1 := hu1.heap kM HNE.out
  have HU1 := Lib.hid (hU0.then hu1 (fun _ _ h => h))
  clear cI fI cM fM kI kM hU0 hz hu1 hs1 cP0 kT
  have i0 := cell_of kI1 0 (v := .int .u8 i.op) rfl
  have i6 := cell_of kI1 6 (v := .int .i64 i.x) rfl
  have i7 := cell_of kI1 7 (v := .int .i64 i.y) rfl
  have h1 : (i.op == 1) = false := by simp [HO.out]
  have h2 : (i.op == 2) = false := by simp [HO.out]
  have h3 : (i.op == 3) = false := by simp [HO.out]
  have h4 : (i.op == 4) = true := by simp [HO.out]
  obtain ⟨T1, hT1⟩ : ∃ T1, ({ t with pc := pc + 1, pos := pos } : TryD) = T1 := ⟨_, rfl⟩
  have HTS : Hid (T1.slots = t.slots ∧ T1.rounds = t.rounds ∧ T1.pos = t.pos) := Lib.hid (by rw [← hT1]; exact ⟨rfl, rfl, HP.out.symm⟩)
  rw [hT1] at k1
  clear hT1
  have HINF : Hid (∀ (k : Nat) (v : Value), (Try.prog.info? 82).map (·.size) = some (tryC { T1 with pc := k } v).size) := Lib.hid (fun k v => by rw [try_size _ _ (show ({ T1 with pc := k } : TryD).slots.length = 22 by rw [show ({ T1 with pc := k } : TryD).slots = T1.slots from rfl, HTS.out.1]; exact HSL.out)]; kernel_rfl)
  have HSZ1 : Hid (∀ (k : Nat) (v : Value), (tryC { T1 with pc := k } v).size = 25) := Lib.hid (fun k v => try_size _ _ (show ({ T1 with pc := k } : TryD).slots.length = 22 by rw [show ({ T1 with pc := k } : TryD).slots = T1.slots from rfl, HTS.out.1]; exact HSL.out))
  have HSPL : Hid (spl (tryC zeroTry (.slice none 0 0)) 0 (Value.agg (tryC T1 rv)).cells.toList = tryC T1 rv) := Lib.hid (by
    have e : (Value.agg (tryC T1 rv)).cells.toList = tryL T1 rv := rfl
    rw [e, spl_all _ _ (by have := HSZ1.out T1.pc rv; simp only [tryC, List.size_toArray] at this; rw [this]; decide)]
    rfl)
  have HONE1 : Hid ((Value.agg (tryC T1 rv)).cells.toList.all (·.oneCell') = true) := Lib.hid (List.all_eq_true.2 (fun u hu => tryL_one HONE0.out u hu))
  have HLE : Hid (0 + (Value.agg (tryC T1 rv)).cells.size ≤ (tryC zeroTry (.slice none 0 0)).size) := Lib.hid (by
    have e : (Value.agg (tryC T1 rv)).cells.size = (tryC { T1 with pc := T1.pc } rv).size := rfl
    rw [e, HSZ1.out]; decide)
  have hbI := heap_lt kI1
  have hbM := heap_lt kM1
  have hbT := heap_lt k1
  have hsz1 := HU1.out.size
  go_upto_region 11 with (first
    | ((with_reducible refine stopLd 82 _ rfl ?_); unfold Stop; refine wpList_load_row rfl 82 _ rfl _ rfl 82 _ (0, 0) _ k1 Try.underlying82 rfl (HINF.out T1.pc rv) ?_)
    | ((with_reducible refine stopAl 82 rfl ?_); unfold Stop; refine wpList_alloc_blk rfl 82 rfl (.agg (tryC zeroTry (.slice none 0 0))) (by kernel_rfl) _ rfl ?_; intro bO w2 hbO kO hU2 hs2)
    | ((with_reducible refine stopSt 82 _ _ rfl ?_); unfold Stop; refine wpList_store_blk rfl 82 _ _ rfl bO 0 rfl (.agg (tryC T1 rv)) rfl (tryC zeroTry (.slice none 0 0)) (tryC T1 rv) _ kO HLE.out (HINF.out T1.pc rv) HONE1.out HSPL.out ?_; intro w3 k3 hu3 hs3))
  have hnI : ¬ bI = bO := by omega
  have hnM : ¬ bM = bO := by omega
  have hnT : ¬ bT = bO := by omega
  have HU3 := Lib.hid ((HU1.out.then hU2 (fun _ _ h => h.elim)).then hu3 (fun k hk (e : k = bO) => by omega))
  have HG3 : Hid (∀ g, g < w.heap.size → ¬ g = bO) := Lib.hid (fun g hg e => by omega)
  have kI3 := hu3.heap (hU2.heap kI1 (fun h => h)) hnI
  have kM3 := hu3.heap (hU2.heap kM1 (fun h => h)) hnM
  have k13 := hu3.heap (hU2.heap k1 (fun h => h)) hnT
  have HRD3 := Lib.hid (ownsRow_upd HRD.out HU3.out (fun g hg e => HRN.out g hg e))
  have HOWN3 := Lib.hid (ownsRow_upd HOWN.out HU3.out (fun g hg e => HNT.out g hg e))
  have hlt3 : w.heap.size ≤ w3.heap.size := HU3.out.size
  have hb3 : w.heap.size ≤ bO := by omega
  clear kI1 kM1 k1 kO hU2 hs2 hu3 hs3 i0 i6 i7 hbO
  have i7 := cell_of kI3 7 (v := .int .i64 i.y) rfl
  have cR := cell_of k13 24 (try_rounds T1 rv (by rw [HTS.out.1]; exact HSL.out))
  obtain ⟨i0, hi, hz0, hz3, hz4⟩ := info_parts info_rtry
  go_upto_region 15 with (first
    | ((with_reducible refine stopSt 3 _ _ rfl ?_); unfold Stop; refine wpList_store_blk rfl 3 _ _ rfl bO 0 rfl (.int .i64 ((i.y.toNat : Nat) : Int)) (by go_simp; first | done | exact rfl | (congr 1; omega) | omega) (tryC T1 rv) (tryC { T1 with pc := i.y.toNat } rv) _ k3 (by rw [show tryC T1 rv = tryC { T1 with pc := T1.pc } rv from rfl, HSZ1.out]; exact (by decide : 0 + 1 ≤ 25)) (by kernel_rfl) rfl (try_set_pc T1 rv i.y.toNat) ?_; intro w4 k4 hu4 hs4; replace cR := hu4.cell cR hnT; have HRD4 := Lib.hid (ownsRow_upd HRD3.out hu4 (fun g hg e => HG3.out g (HRG.out g hg) e)))
    | (at_builtin; refine wpList_append_rds rfl _ _ 51 rfl rfl rv rfl rfl HRD4.out hrl ?_; intro rv2 w5 hrd5 hu5; have HRD5 := Lib.hid hrd5; clear hrd5; have k5 := hu5.heap k4 (fun h => h))
    | ((with_reducible refine stopSt 51 _ _ rfl ?_); unfold Stop; refine wpList_store_blk rfl 51 _ _ rfl bO 24 rfl rv2 rfl (tryC { T1 with pc := i.y.toNat } rv) (tryC { T1 with pc := i.y.toNat } rv2) _ k5 (by rw [HSZ1.out, rds_cells HRD5.out]; exact (by decide : 24 + 1 ≤ 25)) (by rw [rds_cells HRD5.out]; kernel_rfl) (by rw [rds_cells HRD5.out]; exact rds_all HRD5.out) (by rw [rds_cells HRD5.out]; exact try_set_rounds { T1 with pc := i.y.toNat } rv rv2 (by rw [show ({ T1 with pc := i.y.toNat } : TryD).slots = T1.slots from rfl, HTS.out.1]; exact HSL.out)) ?_; intro w6 k6 hu6 hs6))
  have hS : Upd (fun k => k = bO) w3 w6 := (hu4.then hu5 (fun _ _ h => h.elim)).then hu6 (fun _ _ h => h)
  have HRD6 : Hid (RdsAt w6 w3.heap.size rv2 t.rounds) := Lib.hid (RdsAt.base (ownsRow_upd HRD5.out hu6 (fun g hg e => by have := (HRD5.out.lt g hg).1; have := heap_lt k4; omega)) (by omega))
  have HR2 : Hid (∀ g, rv2.ownBlock = some g → w3.heap.size ≤ g) := Lib.hid (fun g hg => by have := (HRD5.out.lt g hg).1; omega)
  clear hu4 hu5 hu6 hs4 hs6 k4 k5 HRD4 HRD5
  obtain ⟨Y, hY⟩ : ∃ Y, ({ T1 with pc := i.y.toNat } : TryD) = Y := ⟨_, rfl⟩
  have HY : Hid (Y = { t with pc := i.y.toNat }) := Lib.hid (by rw [← hY]; obtain ⟨e1, e2, e3⟩ := HTS.out; cases T1; cases t; simp only at e1 e2 e3; simp [e1, e2, e3])
  have HSY : Hid (∀ v, (tryC Y v).size = 25) := Lib.hid (by rw [← hY]; exact HSZ1.out _)
  have HIY : Hid (∀ v, (Try.prog.info? 82).map (·.size) = some (tryC Y v).size) := Lib.hid (by rw [← hY]; exact HINF.out _)
  rw [hY] at k6
  clear hY
  have hSS : Upd (fun k => k = bO) w3 w6 := hS
  have HU6 := Lib.hid (HU3.out.then hSS (fun k hk (e : k = bO) => by omega))
  have kI6 := hSS.heap kI3 hnI
  have kM6 := hSS.heap kM3 hnM
  have k16 := hSS.heap k13 hnT
  have HOWN6 := Lib.hid (ownsRow_upd HOWN3.out hSS (fun g hg e => HG3.out g (HTG.out g hg) e))
  have hlt6 : w3.heap.size ≤ w6.heap.size := hSS.size
  have HONE2 := Lib.hid HRD6.out.one
  have HNMO : Hid (¬ tv.ownBlock = some bM) := Lib.hid (fun e => HNM.out bM e rfl)
  have HNTO : Hid (¬ tv.ownBlock = some bT) := Lib.hid (fun e => HNT.out bT e rfl)
  have HNOO : Hid (¬ tv.ownBlock = some bO) := Lib.hid (fun e => HG3.out bO (HTG.out bO e) rfl)
  have HNIO : Hid (¬ tv.ownBlock = some bI) := Lib.hid (fun e => by have := HTG.out bI e; omega)
  have HLT6 : Hid (∀ g, tv.ownBlock = some g → g < w6.heap.size) := Lib.hid (fun g hg => by have := HTG.out g hg; omega)
  clear hS hSS kI3 kM3 k13 i7 cR
  have c4 := cell_of kM6 4 (v := tv) rfl
  refine wp_region_seq (fun v => Upd (fun k => tv.ownBlock = some k) w6 v) (fun i => i != 10) [(0, true), (1, true), (2, true), (3, true), (4, true), (5, true), (6, false), (7, false), (8, true), (9, true), (10, false)] (by exact rfl) (by kernel_rfl) (by intro c a d v w h; cases d <;> exact h) ?_
  have hS : Upd (fun k => tv.ownBlock = some k) w6 w6.drew := (Upd.refl _ w6).drew
  iterate 5 (((apply seq_val2 rfl (by rfl); (focus (intro w' hS'; have s4 := hS'.cell c4 HNMO.out; go_simp; (first | done | exact rfl | (rw [if_pos (by omega)]; done)))); (focus exact hS))); (try simp only [Act.put, zzT, zzO, zzS]))
  (apply seq_val2 rfl (by rfl); (focus (intro w' hS'; have s4 := hS'.cell c4 HNMO.out; exact exec_load_blk 82 _ rfl bO rfl 82 (tryC Y rv2) (0, 0) _ (hS'.heap k6 HNOO.out) Try.underlying82 rfl (HIY.out rv2))); (focus exact hS))
  (try simp only [Act.put, zzT, zzO, zzS])
  refine seq_loud2 rfl (fun K hK => ?_)
  rw [if_pos (by rfl)]; refine wp_slice1_blk 78 82 _ rfl Try.underlying78 i0 _ (.agg (tryC Y rv2)) 25 hi hz0 hz3 (by decide) (by decide) _ rfl rfl (tryC Y rv2) rfl (HSY.out rv2) ?_; intro bL w7 hbL kL hu7 hs7; have HS0 := Lib.hid (((Upd.refl (fun _ => False) w6).drew).then hu7 (fun _ _ h => h)); have hS7 := hS.then hu7 (fun _ _ h => h.elim); clear hS; have hS := hS7; clear hS7; have hl7 : w6.heap.size ≤ w7.heap.size := HS0.out.size; refine hK _ _ (fun _ => hS) ?_; clear hK K
  (try simp only [Act.put, zzT, zzO, zzS])
  refine seq_loud2 rfl (fun K hK => ?_)
  rw [if_pos (by rfl)]; refine wp_append_own2 _ _ _ 78 rfl B 82 i0 _ 25 216 Try.underlying78 hi hz0 hz3 hz4 rfl (by decide) tv ts.length (triesC ts vs) rfl (ownsRow_upd HOWN6.out HS0.out (fun _ _ h => h)) ⟨bL, 0, none⟩ 1 1 (tryL Y rv2) rfl (by have := HSY.out rv2; simp only [tryC, List.size_toArray] at this; rw [this]) (blk_cells kL) (tryL_one HONE2.out) (by unfold maxLen; omega) (by omega) (by omega) ?_; intro v3 w8 ho3 hg3 hn3; have hS3 : Upd (fun k => tv.ownBlock = some k) w6 w8 := hS.grown hg3 (fun k _ e => e); clear hS; have hS := hS3; clear hS3; obtain ⟨g4, c4', rfl⟩ := own_form25 ho3; have HO3 := Lib.hid ho3; have HN3 := Lib.hid hn3; have kM8 := hS.heap kM6 HNMO.out; have hlt8 := hg3.size; clear ho3 hn3 hg3; refine hK _ _ (fun _ => hS) ?_; clear hK K
  (try simp only [Act.put, zzT, zzO, zzS])
  iterate 2 (((apply seq_val2 rfl (by rfl); (focus (intro w' hS'; have s4 := hS'.cell c4 HNMO.out; go_simp; (first | done | exact rfl | (rw [if_pos (by omega)]; done)))); (focus exact hS))); (try simp only [Act.put, zzT, zzO, zzS]))
  refine seq_loud2 rfl (fun K hK => ?_)
  rw [if_pos (by rfl)]; refine wp_store_blk 78 _ _ rfl bM 4 (by go_simp; first | done | exact rfl) (.slice (some ⟨g4, 0, none⟩) (ts.length + 1) c4') (by go_simp; first | done | exact rfl) #[cv, .int .i64 r, .bool fold, .string s, tv, .int .i64 stp] #[cv, .int .i64 r, .bool fold, .string s, (.slice (some ⟨g4, 0, none⟩) (ts.length + 1) c4'), .int .i64 stp] _ kM8 (zzB rfl) (by kernel_rfl) rfl (by simp only [spl, Value.cells, zzT, zzO, zzS, Array.toList]; first | done | exact rfl) ?_; intro w9 k9 hu9 hs9; refine hK _ _ (fun e => by cases e) ?_; clear hK K
  (try simp only [Act.put, zzT, zzO, zzS])
  refine seq_nil ?_
  have HG4 : Hid (g4 ≠ bM ∧ g4 ≠ bT) := Lib.hid (by
    rcases HN3.out with h3 | h3
    · exact ⟨fun e => HNMO.out (by rw [← h3, ← e]; rfl), fun e => HNTO.out (by rw [← h3, ← e]; rfl)⟩
    · simp only [Value.ownBlock, Option.some.injEq] at h3
      have := HS0.out.size
      omega)
  have kI9 := hu9.heap (hS.heap kI6 HNIO.out) (show ¬ bI = bM by omega)
  have kT9 := hu9.heap (hS.heap k16 HNTO.out) (fun e => HNE.out e.symm)
  have HU9 : Hid (Upd (fun k => k = bM ∨ k = bT ∨ tv.ownBlock = some k) w w9) := Lib.hid (((HU6.out.mono (fun _ _ e => .inr (.inl e))).then hS (fun _ _ e => .inr (.inr e))).then hu9 (fun _ _ e => .inl e))
  have HO9 : Hid (w9.ownsRow B 82 25 (.slice (some ⟨g4, 0, none⟩) (ts.length + 1) c4') (ts.length + 1) (triesC ts vs ++ tryL Y rv2)) := Lib.hid (ownsRow_upd HO3.out hu9 (fun g hg e => by simp only [Value.ownBlock, Option.some.injEq] at hg; exact HG4.out.1 (hg.trans e)))
  have HR9 : Hid (RdsAt w9 w3.heap.size rv2 t.rounds) := Lib.hid (by
    have h6 := HRD6.out
    have hl : ∀ g, rv2.ownBlock = some g → g < w6.heap.size := fun g hg => (h6.lt g hg).2
    exact ownsRow_upd (ownsRow_upd h6 hS (fun g hg e => by have := HTG.out g e; have := HR2.out g hg; omega)) hu9 (fun g hg e => by have := HR2.out g hg; omega))
  have HN9 : Hid (some g4 = tv.ownBlock ∨ w.heap.size ≤ g4) := Lib.hid (by
    rcases HN3.out with h3 | h3
    · exact .inl h3
    · right; simp only [Value.ownBlock, Option.some.injEq] at h3; have := HS0.out.size; omega)
  have HSZT := Lib.hid (HSZ1.out T1.pc rv)
  clear hu9 hs9 hS kI6 kM6 k16 c4 kM8 kL hu7 hs7
  have i6 := cell_of kI9 6 (v := .int .i64 i.x) rfl
  have fT := frees_of kT9
  go_wp2_with (first | ((with_reducible refine stopSt 3 _ _ rfl ?_); unfold Stop; refine wpList_store_blk rfl 3 _ _ rfl bT 0 rfl (.int .i64 ((i.x.toNat : Nat) : Int)) (by go_simp; first | done | exact rfl | (congr 1; omega) | omega) (tryC T1 rv) (tryC { T1 with pc := i.x.toNat } rv) _ kT9 (by rw [show tryC T1 rv = tryC { T1 with pc := T1.pc } rv from rfl, HSZT.out]; exact (by decide : 0 + 1 ≤ 25)) (by kernel_rfl) rfl (try_set_pc T1 rv i.x.toNat) ?_; intro wF kF huF hsF))
  go_ret
  have hX : ({ T1 with pc := i.x.toNat } : TryD) = { t with pc := i.x.toNat } := by obtain ⟨e1, e2, e3⟩ := HTS.out; cases T1; cases t; simp only at e1 e2 e3; simp [e1, e2, e3]
  refine ⟨rfl, _, rv2, huF.heap k9 HNE.out, by rw [← hX]; exact kF, ?_, ?_, ?_, HU9.out.then huF (fun _ _ e => .inr (.inl e))⟩
  · rw [triesC_snoc _ _ _ _ HVL.out, ← HY.out]
    exact ownsRow_upd HO9.out huF (fun g hg e => by simp only [Value.ownBlock, Option.some.injEq] at hg; exact HG4.out.2 (hg.trans e))
  · have h9 := ownsRow_upd HR9.out huF (fun g hg e => by have := HR2.out g hg; omega)
    exact RdsAt.base h9 hlt3
  · rcases HN9.out with h | h
    · exact .inl h
    · exact .inr ⟨g4, rfl, h⟩
end Go.Proofs.Ytigbfgmgdfnhcaa
