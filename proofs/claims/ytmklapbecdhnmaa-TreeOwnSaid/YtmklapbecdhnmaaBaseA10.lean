/- Lemmas that the law's proof stands on, part 10: Twg. No condition. -/
import Derived.Test.YtmklapbecdhnmaaBaseA0
import Derived.Test.YtmklapbecdhnmaaBaseA9
set_option linter.all false
set_option linter.unusedVariables false
set_option linter.unusedSimpArgs false
namespace Go.Proofs.Ytmklapbecdhnmaa
open Go.RowKit
/-- What may have become of memory, seen from a tree. -/
def Frm (w : World) (V : TV) (w' : World) (V' : TV) : Prop := Upd (fun b => ∃ s, V.own s = some b) w w' ∧ Grown w V V'
theorem Frm.newer {w w' : World} (V : TV) (h : Upd (fun b => w.heap.size ≤ b) w w') : Frm w V w' V := ⟨h.mono (fun b hb e => by omega), rfl, fun s b hb => .inl ⟨s, hb⟩⟩
theorem Frm.trans {w w1 w2 : World} {V V1 V2 : TV} (h : Frm w V w1 V1) (g : Frm w1 V1 w2 V2) : Frm w V w2 V2 := by
  refine ⟨h.1.then g.1 (fun i hi ⟨s, hs⟩ => ?_), g.2.1.trans h.2.1, fun s b hb => ?_⟩
  · rcases h.2.2 s i hs with ⟨t, ht⟩ | hle
    · exact ⟨t, ht⟩
    · omega
  · rcases g.2.2 s b hb with ⟨t, ht⟩ | hle
    · exact h.2.2 t b ht
    · right; have := h.1.size; omega
theorem Frm.make {w w1 w2 : World} {V V1 V2 : TV} {l k' : Value} (h : Frm w V w1 V1) (g1 : Upd (fun b => ∃ s, V1.own s = some b) w1 w2) (g2 : V2.bT = V1.bT)
    (g3 : ∀ s b, V2.own s = some b → (∃ t, V1.own t = some b) ∨ l.ownBlock = some b ∨ k'.ownBlock = some b ∨ w1.heap.size ≤ b) (hl : ∀ b, l.ownBlock = some b → (∃ t, V.own t = some b) ∨ w.heap.size ≤ b) (hk : ∀ b, k'.ownBlock = some b → (∃ t, V.own t = some b) ∨ w.heap.size ≤ b) : Frm w V w2 V2 := by
  refine ⟨h.1.then g1 (fun i hi ⟨s, hs⟩ => ?_), g2.trans h.2.1, fun s b hb => ?_⟩
  · rcases h.2.2 s i hs with ⟨t, ht⟩ | hle
    · exact ⟨t, ht⟩
    · omega
  · rcases g3 s b hb with ⟨t, ht⟩ | e | e | hle
    · exact h.2.2 t b ht
    · exact hl b e
    · exact hk b e
    · right; have := h.1.size; omega
theorem Frm.cells {w w' : World} {V : TV} (C' : Array Value) (hu : Upd (fun b => b = V.gN) w w') : Frm w V w' { V with C := C' } :=
  ⟨hu.mono (fun b _ e => ⟨.N, by rw [e]; rfl⟩), rfl, fun s b hb => .inl ⟨s, hb⟩⟩
theorem sum_at {w : World} {V : TV} {T : TD} {b : Nat} (hb : V.bT = b) (h : TA w V T) {k : Nat} (hf : T.fine k) :
    Calls Try.prog 31 #[.pointer (some ⟨b, 0, none⟩), .int .i64 (k : Int)] w fun e w' => e = .returned (.tuple #[]) ∧ ∃ V', TA w' V' (T.sum k) ∧ Frm w V w' V' := by
  subst hb
  exact (sum_any h hf).mono fun e w' ⟨h1, h2, h3⟩ => ⟨h1, _, h2, Frm.cells _ h3⟩
theorem make_at {w : World} {V : TV} {T : TD} {b : Nat} (hb : V.bT = b) (h : TA w V T) (x : ND) (l k' : Value) (hl : Row w 9 l (strsC x.lines)) (hk : Row w 3 k' (natsC x.kids)) (dl : ∀ b, l.ownBlock = some b → ∀ s, V.own s ≠ some b) (dk : ∀ b, k'.ownBlock = some b → ∀ s, V.own s ≠ some b) (dlk : ∀ b, l.ownBlock = some b → k'.ownBlock = some b → False)
    (hfr : ∀ j ∈ T.free, j < T.nodes.length) (hL : T.load ≤ 10000000) :
    Calls Try.prog 30 #[.pointer (some ⟨b, 0, none⟩), .agg #[l, k', .int .i64 (x.count : Int)]] w fun e w' => e = .returned (.int .i64 ((T.make x).1 : Int)) ∧ MPost w V l k' (T.make x).2 w' := by
  subst hb
  exact make_any h x l k' hl hk dl dk dlk hfr hL
set_option maxRecDepth 100000 in
set_option maxHeartbeats 16000000 in
theorem split_leaf {w : World} {V : TV} {T : TD} (h : TA w V T) {k : Nat} (hf : T.fine k) (hs : 8 < (T.get k).size) (hss : SafeSplit T k) (hkk : (T.get k).kids = []) :
    Calls Try.prog 48 #[.pointer (some ⟨V.bT, 0, none⟩), .int .i64 (k : Int)] w fun e w' => e = .returned (.int .i64 (optI (T.split k).1)) ∧ TPost w V (T.split k).2 w' := by
  have HH := Lib.hid h
  have hk := hf.lt
  have hsp : T.split k = (some (T.cut k).1, ((T.cut k).2.sum k).sum (T.cut k).1) := by unfold TD.split; rw [if_neg (by omega)]
  rw [hsp]
  obtain ⟨fc1, fc2⟩ := hss hs
  obtain ⟨la, lc, el⟩ := (h.lin k hk).form
  obtain ⟨ka, kc, ek⟩ := (h.kid k hk).form
  have hll : (strsC (T.get k).lines).length = (T.get k).lines.length := by simp [strsC]
  have hkl : (natsC (T.get k).kids).length = (T.get k).kids.length := by simp [natsC]
  rw [hll] at el
  rw [hkl] at ek
  have HLR : Hid (Row w 9 (.slice la (T.get k).lines.length lc) (strsC (T.get k).lines)) := Lib.hid (el ▸ h.lin k hk)
  have HKR : Hid (Row w 3 (.slice ka (T.get k).kids.length kc) (natsC (T.get k).kids)) := Lib.hid (ek ▸ h.kid k hk)
  have HLE := Lib.hid el
  have HKE := Lib.hid ek
  obtain ⟨x0, x1, x2⟩ := h.cel k hk
  rw [el] at x0
  rw [ek] at x1
  have HC3 := Lib.hid (cells3 h.row x0 x1 x2)
  have hcap := h.cap
  have hmax := h.max
  unfold maxLen at hmax
  have kT := h.blk
  unfold treeC TV.nv at kT
  have c0 := cell_of kT 0 (v := .slice (some ⟨V.gN, 0, none⟩) T.nodes.length V.cN) rfl
  have hks : (T.get k).kids.length ≤ 100 := hf.kids
  have hlsz : (T.get k).lines.length ≤ 100 := hf.lines
  have hs2 : 8 < (T.get k).lines.length + (T.get k).kids.length := hs
  have hk3 : k * 3 + 3 ≤ V.C.size := node_cells h hk
  have HFR := Lib.hid (And.intro hf.fre hf.load)
  have hk0 : (T.get k).kids.length = 0 := by rw [hkk]; rfl
  rw [hk0] at HC3 HKR HKE hs2
  obtain ⟨n, hn⟩ : ∃ n, (T.get k).lines.length = n := ⟨_, rfl⟩
  have elow : (T.get k).low = ⟨(T.get k).lines.take (n / 2), (T.get k).kids, (T.get k).count⟩ := by unfold ND.low; rw [if_pos hkk]; show (⟨(T.get k).lines.take (((T.get k).lines.length + (T.get k).kids.length) / 2), _, _⟩ : ND) = _; rw [hk0, hn, Nat.add_zero]
  have ehigh : (T.get k).high = ⟨(T.get k).lines.drop (n / 2), [], 0⟩ := by unfold ND.high; rw [if_pos hkk]; show (⟨(T.get k).lines.drop (((T.get k).lines.length + (T.get k).kids.length) / 2), _, _⟩ : ND) = _; rw [hk0, hn, Nat.add_zero]
  have HN := Lib.hid hn
  rw [hn] at HC3 HLR HLE hs2 hlsz
  obtain ⟨h2, hh2⟩ : ∃ h2, n / 2 = h2 := ⟨_, rfl⟩
  rw [hh2] at elow ehigh
  have g2 : h2 < n := by omega
  have g3 : (n : Int) / 2 = (h2 : Int) := by omega
  have g8 : ¬ (n : Int) ≤ 8 := by omega
  have glc : n ≤ lc := by have := HLR.out.len; omega
  obtain ⟨g, hg⟩ := HLR.out.addr (by simp [strsC]; omega)
  subst hg
  have HKK := Lib.hid hkk
  clear hk0 hkk hn hh2
  obtain ⟨cnt, hcnt⟩ : ∃ c, (T.get k).count = c := ⟨_, rfl⟩
  rw [hcnt] at HC3
  have HCNT := Lib.hid hcnt
  have HFC1 := Lib.hid fc1
  have HFC2 := Lib.hid fc2
  have HCUT : Hid (T.cut k = (T.put k ⟨(T.get k).lines.take h2, (T.get k).kids, (T.get k).count⟩).make ⟨(T.get k).lines.drop h2, [], 0⟩) := Lib.hid (by unfold TD.cut; rw [elow, ehigh])
  have HKT := Lib.hid kT
  clear hcnt el ek hll hkl x0 x1 x2 h hf hs hsp hss kT fc1 fc2
  go_enter Try.func48, Try.ntmps48
  go_upto_region 2 with (first
    | ((with_reducible refine stopLd 61 _ rfl ?_); unfold Stop; refine wpList_load_any rfl 61 _ rfl ⟨V.gN, k * 3, none⟩ rfl [.slice (some ⟨g, 0, none⟩) n lc, .slice ka 0 kc, .int .i64 (cnt : Int)] _ HC3.out Try.underlying61 rfl (by kernel_rfl) ?_)
    | ((with_reducible refine stopAl 61 rfl ?_); unfold Stop; refine wpList_alloc_blk rfl 61 rfl (.agg #[.slice none 0 0, .slice none 0 0, .int .i64 0]) (by kernel_rfl) #[.slice none 0 0, .slice none 0 0, .int .i64 0] rfl ?_; intro bX w1 hbX kX hu1 hs1)
    | ((with_reducible refine stopSt 61 _ _ rfl ?_); unfold Stop; refine wpList_store_blk rfl 61 _ _ rfl bX 0 rfl (.agg #[.slice (some ⟨g, 0, none⟩) n lc, .slice ka 0 kc, .int .i64 (cnt : Int)]) rfl _ #[.slice (some ⟨g, 0, none⟩) n lc, .slice ka 0 kc, .int .i64 (cnt : Int)] _ kX (zzB rfl) (by kernel_rfl) rfl rfl ?_; intro w2 kX2 hu2 hs2'))
  have y0 := cell_of kX2 0 (v := .slice (some ⟨g, 0, none⟩) n lc) rfl
  have y1 := cell_of kX2 1 (v := .slice ka 0 kc) rfl
  have hbXl : w.heap.size ≤ bX := Nat.le_of_eq hbX
  have HU2 : Hid (Upd (fun b => w.heap.size ≤ b) w w2) := Lib.hid ((hu1.mono (fun b _ e => e.elim)).then hu2 (fun b hb e => by omega))
  have HX2 := Lib.hid kX2
  clear kX kX2 hu1 hu2 hs1 hs2' c0
  go_upto_region 4 with (first
    | (go_at_call 33; refine (size_any bX 0 (some ⟨g, 0, none⟩) n lc y0 ka 0 kc y1 (by omega) (by omega)).mono ?_; rintro e w3 ⟨rfl, hq3⟩))
  have kX3 := (false_upd2 hq3).heap HX2.out (fun h => h)
  have z0 := cell_of kX3 0 (v := .slice (some ⟨g, 0, none⟩) n lc) rfl
  have z1 := cell_of kX3 1 (v := .slice ka 0 kc) rfl
  have HU3 : Hid (Upd (fun b => w.heap.size ≤ b) w w3) := Lib.hid (HU2.out.then (false_upd2 hq3) (fun b _ e => e.elim))
  clear y0 y1 hq3
  go_upto_region 6 with (first
    | (go_at_call 33; refine (size_any bX 0 (some ⟨g, 0, none⟩) n lc z0 ka 0 kc z1 (by omega) (by omega)).mono ?_; rintro e w4 ⟨rfl, hq4⟩)
    | ((with_reducible refine stopAl 61 rfl ?_); unfold Stop; refine wpList_alloc_blk rfl 61 rfl (.agg #[.slice none 0 0, .slice none 0 0, .int .i64 0]) (by kernel_rfl) #[.slice none 0 0, .slice none 0 0, .int .i64 0] rfl ?_; intro bY w5 hbY kY5 hu5 hs5))
  have kX5 := hu5.heap ((false_upd2 hq4).heap kX3 (fun h => h)) (fun h => h)
  have HU5 : Hid (Upd (fun b => w.heap.size ≤ b) w w5) := Lib.hid ((HU3.out.then (false_upd2 hq4) (fun b _ e => e.elim)).then hu5 (fun b _ e => e.elim))
  have hbYX : bX < bY := by have := heap_lt ((false_upd2 hq4).heap kX3 (fun h => h)); omega
  have y0 := cell_of kX5 0 (v := .slice (some ⟨g, 0, none⟩) n lc) rfl
  have y1 := cell_of kX5 1 (v := .slice ka 0 kc) rfl
  have HX5 := Lib.hid kX5
  have HY5 := Lib.hid kY5
  have HRW5 : Hid (Row w5 9 (.slice (some ⟨g, 0, none⟩) n lc) (strsC (T.get k).lines)) := Lib.hid (HLR.out.upd HU5.out (fun b hb e => by have := HLR.out.lt hb; omega))
  clear z0 z1 hq4 hu5 hs5 kX3 kX5 kY5
  go_upto_region 7 with (first
    | (go_at_call 44; refine (leaf_any bX 0 ka 0 kc y1).mono ?_; rintro e w9 ⟨rfl, rfl⟩))
  go_upto_region 8 with (first
    | (go_at_call 55; refine (cloneS_any g h2 (n - h2) (lc - h2) ((T.get k).lines.drop h2) (by simp [HN.out]) (by omega) (fun j u hj => ?_)).mono ?_; (focus (have hj2 := HRW5.out.cells0 (h2 + j) u (by rw [← hj]; simp [strsC, List.map_drop]); rwa [Nat.zero_add] at hj2)); rintro e w6 ⟨v6, rfl, hr6, hu6, hn6⟩; have kX6 := hu6.heap HX5.out (fun h => h); have kY6 := hu6.heap HY5.out (fun h => h); obtain ⟨a6, c6, e6⟩ := hr6.form; rw [show (strsC ((T.get k).lines.drop h2)).length = n - h2 by simp [strsC, HN.out]] at e6; subst e6)
    | ((with_reducible refine stopSt 22 _ _ rfl ?_); unfold Stop; refine wpList_store_blk rfl 22 _ _ rfl bY 0 rfl (.slice a6 (n - h2) c6) rfl _ #[.slice a6 (n - h2) c6, .slice none 0 0, .int .i64 0] _ kY6 (zzB rfl) (by kernel_rfl) rfl rfl ?_; intro w7 kY7 hu7 hs7; have kX7 := hu7.heap kX6 (show ¬ bX = bY by omega)))
  have HU7 : Hid (Upd (fun b => w.heap.size ≤ b) w w7) := Lib.hid ((HU5.out.then hu6 (fun b _ e => e.elim)).then hu7 (fun b hb e => by omega))
  have HR7 : Hid (Row w7 9 (.slice a6 (n - h2) c6) (strsC ((T.get k).lines.drop h2))) := Lib.hid (hr6.upd hu7 (fun b hb e => by have := hn6 b hb; have := heap_lt HY5.out; omega))
  have HN6 : Hid (∀ b, (Value.slice a6 (n - h2) c6).ownBlock = some b → w5.heap.size ≤ b) := Lib.hid hn6
  have HX7 := Lib.hid kX7
  have HY7 := Lib.hid kY7
  have y0 := cell_of kX7 0 (v := .slice (some ⟨g, 0, none⟩) n lc) rfl
  have y1 := cell_of kX7 1 (v := .slice ka 0 kc) rfl
  clear hu6 hu7 hr6 hn6 hs7 kX6 kY6
  go_upto_region 11 with (first
    | (go_at_call 56; refine (clipS_any (some ⟨g, 0, none⟩) h2 lc (by omega) (by unfold maxLen; have := HLR.out.len; unfold maxLen at this; omega)).mono ?_; rintro e w9 ⟨rfl, rfl⟩)
    | ((with_reducible refine stopSt 22 _ _ rfl ?_); unfold Stop; refine wpList_store_blk rfl 22 _ _ rfl bX 0 rfl (.slice (some ⟨g, 0, none⟩) h2 h2) rfl _ #[.slice (some ⟨g, 0, none⟩) h2 h2, .slice ka 0 kc, .int .i64 (cnt : Int)] _ kX7 (zzB rfl) (by kernel_rfl) rfl rfl ?_; intro w8 kX8 hu8 hs8; have kY8 := hu8.heap HY7.out (show ¬ bY = bX by omega)))
  have HU8 : Hid (Upd (fun b => w.heap.size ≤ b) w w8) := Lib.hid (HU7.out.then hu8 (fun b hb e => by omega))
  obtain ⟨wd, hwd⟩ : ∃ wd, w8.drew = wd := ⟨_, rfl⟩
  have HUd : Hid (Upd (fun b => w.heap.size ≤ b) w wd) := Lib.hid (by rw [← hwd]; exact HU8.out.drew)
  have hTl : V.bT < w.heap.size := heap_lt HKT.out
  have c0d : wd.cell? ⟨V.bT, 0, none⟩ = some (.slice (some ⟨V.gN, 0, none⟩) T.nodes.length V.cN) := cell_of (HUd.out.heap HKT.out (show ¬ w.heap.size ≤ V.bT by omega)) 0 rfl
  have hNl : V.gN < w.heap.size := heap_lt HH.out.row
  have HNd : Hid (wd.heap[V.gN]? = some (.cells V.C 61 (0, 0))) := Lib.hid (HUd.out.heap HH.out.row (show ¬ w.heap.size ≤ V.gN by omega))
  have HXd : Hid (wd.heap[bX]? = some (.cells #[.slice (some ⟨g, 0, none⟩) h2 h2, .slice ka 0 kc, .int .i64 (cnt : Int)] 61 (0, 0))) := Lib.hid (by rw [← hwd]; exact kX8)
  have HYd : Hid (wd.heap[bY]? = some (.cells #[.slice a6 (n - h2) c6, .slice none 0 0, .int .i64 0] 61 (0, 0))) := Lib.hid (by rw [← hwd]; exact kY8)
  have HRd : Hid (Row wd 9 (.slice a6 (n - h2) c6) (strsC ((T.get k).lines.drop h2))) := Lib.hid (by
    have h8 := HR7.out.upd hu8 (fun b hb e => by have := HN6.out b hb; have := heap_lt HX5.out; omega)
    rw [← hwd]
    exact h8.upd ((Upd.refl (fun _ => False) _).drew) (fun _ _ h => h))
  clear hu8 hs8 kX8 kY8 kX7 kY7 y0 y1
  refine wp_region_seq (fun v => v = wd) (fun i => i != 7) [(0, true), (1, true), (2, true), (3, true), (4, true), (5, true), (6, true), (7, false)] (by exact rfl) (by kernel_rfl) (by intro c a d v w h; cases d <;> exact h) ?_
  rw [hwd]; have hS : wd = wd := rfl
  iterate 5 (((apply seq_val2 rfl (by rfl); (focus (intro w' hS'; subst hS'; go_simp; (first | done | exact rfl | (rw [if_pos (by omega)]; done)))); (focus exact hS))); (try simp only [Act.put, zzT, zzO, zzS]))
  (apply seq_val2 rfl (by rfl); (focus (intro w' hS'; subst hS'; exact exec_load_blk 61 _ rfl bX rfl 61 #[.slice (some ⟨g, 0, none⟩) h2 h2, .slice ka 0 kc, .int .i64 (cnt : Int)] (0, 0) _ HXd.out Try.underlying61 rfl (by kernel_rfl))); (focus exact hS))
  (try simp only [Act.put, zzT, zzO, zzS])
  (apply seq_val2 rfl (by rfl); (focus (intro w' hS'; subst hS'; go_simp; (first | done | exact rfl | (rw [if_pos (by omega)]; done)))); (focus exact hS))
  (try simp only [Act.put, zzT, zzO, zzS])
  refine seq_loud2 rfl (fun K hK => ?_)
  rw [if_pos (by rfl)]; refine wp_store_blk 61 _ _ rfl V.gN (k * 3) rfl (.agg #[.slice (some ⟨g, 0, none⟩) h2 h2, .slice ka 0 kc, .int .i64 (cnt : Int)]) rfl V.C (spl V.C (k * 3) [.slice (some ⟨g, 0, none⟩) h2 h2, .slice ka 0 kc, .int .i64 (cnt : Int)]) _ HNd.out (by show k * 3 + 3 ≤ V.C.size; omega) (by kernel_rfl) rfl rfl ?_; intro w10 k10 hu10 hs10; refine hK _ _ (fun e => by cases e) ?_; clear hK K
  (try simp only [Act.put, zzT, zzO, zzS])
  refine seq_nil ?_
  have td : TA wd V T := HH.out.newer HUd.out
  obtain ⟨q0, q1, q2, q3, q4⟩ := spl3_at (C := V.C) (i := k * 3) (a := .slice (some ⟨g, 0, none⟩) h2 h2) (b := .slice ka 0 kc) (c := .int .i64 (cnt : Int)) hk3
  have hgo : V.own (.L k) = some g := by show (V.lv k).ownBlock = _; rw [HLE.out]; rfl
  have hgN : ¬ g = V.gN := fun e => by have := HH.out.inj (.L k) .N V.gN (by rw [hgo, e]) rfl; cases this
  have hcutrow : Row w10 9 (.slice (some ⟨g, 0, none⟩) h2 h2) (strsC ((T.get k).lines.take h2)) := by
    have h1 := ((HLR.out.cut (m := h2) (by omega)).clip.upd HUd.out (fun b hb e => by have := (HLR.out.cut (m := h2) (by omega)).clip.lt hb; omega)).upd hu10 (fun b hb e => by
      simp only [Value.ownBlock, Option.some.injEq] at hb
      exact hgN (by rw [hb, e]))
    simpa [strsC, List.map_take] using h1
  have hother : Row w10 3 (.slice ka 0 kc) (natsC (T.get k).kids) := (HKR.out.upd HUd.out (fun b hb e => by have := HKR.out.lt hb; omega)).upd hu10 (fun b hb e => by have := HH.out.inj (.K k) .N V.gN (by show (V.kv k).ownBlock = _; rw [HKE.out, hb, e]) rfl; cases this)
  obtain ⟨t10, u10, g10⟩ := td.turn (w' := w10) hk ⟨(T.get k).lines.take h2, (T.get k).kids, (T.get k).count⟩ (C' := spl V.C (k * 3) [.slice (some ⟨g, 0, none⟩) h2 h2, .slice ka 0 kc, .int .i64 (cnt : Int)]) (l' := .slice (some ⟨g, 0, none⟩) h2 h2) (k' := .slice ka 0 kc) (hu10.mono (fun b _ e => .inl e)) k10 q3 (fun i hi => ⟨q4 _ (by omega), q4 _ (by omega), q4 _ (by omega)⟩) q0 q1 (by rw [q2, HCNT.out]) hcutrow hother (fun b hb => .inl (by rw [hgo]; exact hb)) (fun b hb => .inl (by show (V.kv k).ownBlock = _; rw [HKE.out]; exact hb)) (fun b h1 h2 => by have := HH.out.inj (.L k) (.K k) b (by rw [hgo]; exact h1) (by show (V.kv k).ownBlock = _; rw [HKE.out]; exact h2); cases this)
  obtain ⟨V6, hV6⟩ : ∃ V6, V.set k (spl V.C (k * 3) [.slice (some ⟨g, 0, none⟩) h2 h2, .slice ka 0 kc, .int .i64 (cnt : Int)]) (.slice (some ⟨g, 0, none⟩) h2 h2) (.slice ka 0 kc) = V6 := ⟨_, rfl⟩
  rw [hV6] at t10 g10
  have HT10 := Lib.hid t10
  have HF10 : Hid (Frm w V w10 V6) := Lib.hid ((Frm.newer V HUd.out).trans ⟨u10, g10⟩)
  have HB6 : Hid (V6.bT = V.bT) := Lib.hid g10.1
  have HR10 : Hid (Row w10 9 (.slice a6 (n - h2) c6) (strsC ((T.get k).lines.drop h2))) := Lib.hid (HRd.out.upd hu10 (fun b hb e => by have := HN6.out b hb; have := heap_lt HY5.out; omega))
  have HDL : Hid (∀ b, (Value.slice a6 (n - h2) c6).ownBlock = some b → ∀ s, V6.own s ≠ some b) := Lib.hid (fun b hb s hs => by
    rcases g10.2 s b hs with ⟨t, ht⟩ | h2
    · have := HH.out.lt ht; have := HN6.out b hb; have := heap_lt HX5.out; omega
    · have := HRd.out.lt hb; omega)
  have HY10 : Hid (w10.heap[bY]? = some (.cells #[.slice a6 (n - h2) c6, .slice none 0 0, .int .i64 0] 61 (0, 0))) := Lib.hid (hu10.heap HYd.out (show ¬ bY = V.gN by omega))
  have HNEW : Hid (∀ b, (Value.slice a6 (n - h2) c6).ownBlock = some b → w.heap.size ≤ b) := Lib.hid (fun b hb => by have := HN6.out b hb; have := heap_lt HX5.out; omega)
  have HFR2 : Hid (∀ j ∈ (T.put k ⟨(T.get k).lines.take h2, (T.get k).kids, (T.get k).count⟩).free, j < (T.put k ⟨(T.get k).lines.take h2, (T.get k).kids, (T.get k).count⟩).nodes.length) := Lib.hid (fun j hj => by rw [put_len]; exact HFR.out.1 j hj)
  have hl2 : (T.put k ⟨(T.get k).lines.take h2, (T.get k).kids, (T.get k).count⟩).load ≤ 10000000 := by rw [load_put]; exact HFR.out.2
  have HL2 := Lib.hid hl2
  obtain ⟨T1, hT1⟩ : ∃ T1, T.put k ⟨(T.get k).lines.take h2, (T.get k).kids, (T.get k).count⟩ = T1 := ⟨_, rfl⟩
  rw [hT1] at HT10 HFR2 HL2 HCUT
  clear hT1 hl2 t10 u10 g10 hV6 td hu10 hs10 k10 q0 q1 q2 q3 q4 hcutrow hother hgo
  go_upto_region 13 with (first
    | ((with_reducible refine stopLd 61 _ rfl ?_); unfold Stop; refine wpList_load_row rfl 61 _ rfl _ rfl 61 _ (0, 0) _ HY10.out Try.underlying61 rfl (by kernel_rfl) ?_)
    | (go_at_call 30; refine (make_at HB6.out HT10.out ⟨(T.get k).lines.drop h2, [], 0⟩ (.slice a6 (n - h2) c6) (.slice none 0 0) HR10.out (.nil _ _) HDL.out (fun b hb => by cases hb) (fun b h1 h2 => by cases h2) HFR2.out HL2.out).mono ?_; rintro e w11 ⟨rfl, hm⟩; rw [← HCUT.out] at hm ⊢; have HM := Lib.hid hm; clear hm))
  obtain ⟨V7, t7, u7, b7, g7⟩ := HM.out
  have HT7 := Lib.hid t7
  have HF7 : Hid (Frm w V w11 V7) := Lib.hid (HF10.out.make u7 b7 g7 (fun b hb => .inr (HNEW.out b hb)) (fun b hb => by cases hb))
  have HB7 : Hid (V7.bT = V.bT) := Lib.hid (b7.trans HB6.out)
  clear HM t7 u7 b7 g7
  go_upto_region 14 with (first
    | (go_at_call 31; refine (sum_at HB7.out HT7.out HFC1.out).mono ?_; rintro e w12 ⟨rfl, hm⟩; have HM := Lib.hid hm; clear hm))
  obtain ⟨V8, t8, f8⟩ := HM.out
  have HT8 := Lib.hid t8
  have HF8 : Hid (Frm w V w12 V8) := Lib.hid (HF7.out.trans f8)
  have HB8 : Hid (V8.bT = V.bT) := Lib.hid HF8.out.2.1
  clear HM t8 f8
  go_wp2_with (first
    | (go_at_call 31; refine (sum_at HB8.out HT8.out HFC2.out).mono ?_; rintro e w13 ⟨rfl, hm⟩; have HM := Lib.hid hm; clear hm))
  go_ret
  obtain ⟨V9, t9, f9⟩ := HM.out
  have f := HF8.out.trans f9
  exact ⟨rfl, V9, t9, f.1, f.2⟩
set_option maxRecDepth 100000 in
set_option maxHeartbeats 16000000 in
theorem split_node {w : World} {V : TV} {T : TD} (h : TA w V T) {k : Nat} (hf : T.fine k) (hs : 8 < (T.get k).size) (hss : SafeSplit T k) (hkk : (T.get k).kids ≠ []) :
    Calls Try.prog 48 #[.pointer (some ⟨V.bT, 0, none⟩), .int .i64 (k : Int)] w fun e w' => e = .returned (.int .i64 (optI (T.split k).1)) ∧ TPost w V (T.split k).2 w' := by
  have HH := Lib.hid h
  have hk := hf.lt
  have hsp : T.split k = (some (T.cut k).1, ((T.cut k).2.sum k).sum (T.cut k).1) := by unfold TD.split; rw [if_neg (by omega)]
  rw [hsp]
  obtain ⟨fc1, fc2⟩ := hss hs
  obtain ⟨la, lc, el⟩ := (h.lin k hk).form
  obtain ⟨ka, kc, ek⟩ := (h.kid k hk).form
  have hll : (strsC (T.get k).lines).length = (T.get k).lines.length := by simp [strsC]
  have hkl : (natsC (T.get k).kids).length = (T.get k).kids.length := by simp [natsC]
  rw [hll] at el
  rw [hkl] at ek
  have HLR : Hid (Row w 9 (.slice la (T.get k).lines.length lc) (strsC (T.get k).lines)) := Lib.hid (el ▸ h.lin k hk)
  have HKR : Hid (Row w 3 (.slice ka (T.get k).kids.length kc) (natsC (T.get k).kids)) := Lib.hid (ek ▸ h.kid k hk)
  have HLE := Lib.hid el
  have HKE := Lib.hid ek
  obtain ⟨x0, x1, x2⟩ := h.cel k hk
  rw [el] at x0
  rw [ek] at x1
  have HC3 := Lib.hid (cells3 h.row x0 x1 x2)
  have hcap := h.cap
  have hmax := h.max
  unfold maxLen at hmax
  have kT := h.blk
  unfold treeC TV.nv at kT
  have c0 := cell_of kT 0 (v := .slice (some ⟨V.gN, 0, none⟩) T.nodes.length V.cN) rfl
  have hks : (T.get k).kids.length ≤ 100 := hf.kids
  have hlsz : (T.get k).lines.length ≤ 100 := hf.lines
  have hs2 : 8 < (T.get k).lines.length + (T.get k).kids.length := hs
  have hk3 : k * 3 + 3 ≤ V.C.size := node_cells h hk
  have HFR := Lib.hid (And.intro hf.fre hf.load)
  have hmix := hf.mix hkk
  have hk0 : (T.get k).lines.length = 0 := by rw [hmix]; rfl
  rw [hk0] at HC3 HLR HLE hs2
  obtain ⟨n, hn⟩ : ∃ n, (T.get k).kids.length = n := ⟨_, rfl⟩
  have elow : (T.get k).low = ⟨(T.get k).lines, (T.get k).kids.take (n / 2), (T.get k).count⟩ := by unfold ND.low; rw [if_neg hkk]; show (⟨_, (T.get k).kids.take (((T.get k).lines.length + (T.get k).kids.length) / 2), _⟩ : ND) = _; rw [hk0, hn, Nat.zero_add]
  have ehigh : (T.get k).high = ⟨[], (T.get k).kids.drop (n / 2), 0⟩ := by unfold ND.high; rw [if_neg hkk]; show (⟨[], (T.get k).kids.drop (((T.get k).lines.length + (T.get k).kids.length) / 2), 0⟩ : ND) = _; rw [hk0, hn, Nat.zero_add]
  have HN := Lib.hid hn
  rw [hn] at HC3 HKR HKE hs2 hks
  obtain ⟨h2, hh2⟩ : ∃ h2, n / 2 = h2 := ⟨_, rfl⟩
  rw [hh2] at elow ehigh
  have g2 : h2 < n := by omega
  have g3 : (n : Int) / 2 = (h2 : Int) := by omega
  have g8 : ¬ (n : Int) ≤ 8 := by omega
  have g9 : ((n : Int) == 0) = false := beq_eq_false_iff_ne.2 (by omega)
  have glc : n ≤ kc := by have := HKR.out.len; omega
  obtain ⟨g, hg⟩ := HKR.out.addr (by simp [natsC]; omega)
  subst hg
  have HKK := Lib.hid hkk
  clear hk0 hkk hn hh2 hmix
  obtain ⟨cnt, hcnt⟩ : ∃ c, (T.get k).count = c := ⟨_, rfl⟩
  rw [hcnt] at HC3
  have HCNT := Lib.hid hcnt
  have HFC1 := Lib.hid fc1
  have HFC2 := Lib.hid fc2
  have HCUT : Hid (T.cut k = (T.put k ⟨(T.get k).lines, (T.get k).kids.take h2, (T.get k).count⟩).make ⟨[], (T.get k).kids.drop h2, 0⟩) := Lib.hid (by unfold TD.cut; rw [elow, ehigh])
  have HKT := Lib.hid kT
  clear hcnt el ek hll hkl x0 x1 x2 h hf hs hsp hss kT fc1 fc2
  go_enter Try.func48, Try.ntmps48
  go_upto_region 2 with (first
    | ((with_reducible refine stopLd 61 _ rfl ?_); unfold Stop; refine wpList_load_any rfl 61 _ rfl ⟨V.gN, k * 3, none⟩ rfl [.slice la 0 lc, .slice (some ⟨g, 0, none⟩) n kc, .int .i64 (cnt : Int)] _ HC3.out Try.underlying61 rfl (by kernel_rfl) ?_)
    | ((with_reducible refine stopAl 61 rfl ?_); unfold Stop; refine wpList_alloc_blk rfl 61 rfl (.agg #[.slice none 0 0, .slice none 0 0, .int .i64 0]) (by kernel_rfl) #[.slice none 0 0, .slice none 0 0, .int .i64 0] rfl ?_; intro bX w1 hbX kX hu1 hs1)
    | ((with_reducible refine stopSt 61 _ _ rfl ?_); unfold Stop; refine wpList_store_blk rfl 61 _ _ rfl bX 0 rfl (.agg #[.slice la 0 lc, .slice (some ⟨g, 0, none⟩) n kc, .int .i64 (cnt : Int)]) rfl _ #[.slice la 0 lc, .slice (some ⟨g, 0, none⟩) n kc, .int .i64 (cnt : Int)] _ kX (zzB rfl) (by kernel_rfl) rfl rfl ?_; intro w2 kX2 hu2 hs2'))
  have y0 := cell_of kX2 0 (v := .slice la 0 lc) rfl
  have y1 := cell_of kX2 1 (v := .slice (some ⟨g, 0, none⟩) n kc) rfl
  have hbXl : w.heap.size ≤ bX := Nat.le_of_eq hbX
  have HU2 : Hid (Upd (fun b => w.heap.size ≤ b) w w2) := Lib.hid ((hu1.mono (fun b _ e => e.elim)).then hu2 (fun b hb e => by omega))
  have HX2 := Lib.hid kX2
  clear kX kX2 hu1 hu2 hs1 hs2' c0
  go_upto_region 4 with (first
    | (go_at_call 33; refine (size_any bX 0 la 0 lc y0 (some ⟨g, 0, none⟩) n kc y1 (by omega) (by omega)).mono ?_; rintro e w3 ⟨rfl, hq3⟩))
  have kX3 := (false_upd2 hq3).heap HX2.out (fun h => h)
  have z0 := cell_of kX3 0 (v := .slice la 0 lc) rfl
  have z1 := cell_of kX3 1 (v := .slice (some ⟨g, 0, none⟩) n kc) rfl
  have HU3 : Hid (Upd (fun b => w.heap.size ≤ b) w w3) := Lib.hid (HU2.out.then (false_upd2 hq3) (fun b _ e => e.elim))
  clear y0 y1 hq3
  go_upto_region 6 with (first
    | (go_at_call 33; refine (size_any bX 0 la 0 lc z0 (some ⟨g, 0, none⟩) n kc z1 (by omega) (by omega)).mono ?_; rintro e w4 ⟨rfl, hq4⟩)
    | ((with_reducible refine stopAl 61 rfl ?_); unfold Stop; refine wpList_alloc_blk rfl 61 rfl (.agg #[.slice none 0 0, .slice none 0 0, .int .i64 0]) (by kernel_rfl) #[.slice none 0 0, .slice none 0 0, .int .i64 0] rfl ?_; intro bY w5 hbY kY5 hu5 hs5))
  have kX5 := hu5.heap ((false_upd2 hq4).heap kX3 (fun h => h)) (fun h => h)
  have HU5 : Hid (Upd (fun b => w.heap.size ≤ b) w w5) := Lib.hid ((HU3.out.then (false_upd2 hq4) (fun b _ e => e.elim)).then hu5 (fun b _ e => e.elim))
  have hbYX : bX < bY := by have := heap_lt ((false_upd2 hq4).heap kX3 (fun h => h)); omega
  have y0 := cell_of kX5 0 (v := .slice la 0 lc) rfl
  have y1 := cell_of kX5 1 (v := .slice (some ⟨g, 0, none⟩) n kc) rfl
  have HX5 := Lib.hid kX5
  have HY5 := Lib.hid kY5
  have HRW5 : Hid (Row w5 3 (.slice (some ⟨g, 0, none⟩) n kc) (natsC (T.get k).kids)) := Lib.hid (HKR.out.upd HU5.out (fun b hb e => by have := HKR.out.lt hb; omega))
  clear z0 z1 hq4 hu5 hs5 kX3 kX5 kY5
  go_upto_region 9 with (first
    | (go_at_call 44; refine (leaf_any bX 0 (some ⟨g, 0, none⟩) n kc y1).mono ?_; rintro e w9 ⟨rfl, rfl⟩))
  go_upto_region 10 with (first
    | (go_at_call 57; refine (cloneI_any g h2 (n - h2) (kc - h2) ((T.get k).kids.drop h2) (by simp [HN.out]) (by omega) (fun j u hj => ?_)).mono ?_; (focus (have hj2 := HRW5.out.cells0 (h2 + j) u (by rw [← hj]; simp [natsC, List.map_drop]); rwa [Nat.zero_add] at hj2)); rintro e w6 ⟨v6, rfl, hr6, hu6, hn6⟩; have kX6 := hu6.heap HX5.out (fun h => h); have kY6 := hu6.heap HY5.out (fun h => h); obtain ⟨a6, c6, e6⟩ := hr6.form; rw [show (natsC ((T.get k).kids.drop h2)).length = n - h2 by simp [natsC, HN.out]] at e6; subst e6)
    | ((with_reducible refine stopSt 42 _ _ rfl ?_); unfold Stop; refine wpList_store_blk rfl 42 _ _ rfl bY 1 rfl (.slice a6 (n - h2) c6) rfl _ #[.slice none 0 0, .slice a6 (n - h2) c6, .int .i64 0] _ kY6 (zzB rfl) (by kernel_rfl) rfl rfl ?_; intro w7 kY7 hu7 hs7; have kX7 := hu7.heap kX6 (show ¬ bX = bY by omega)))
  have HU7 : Hid (Upd (fun b => w.heap.size ≤ b) w w7) := Lib.hid ((HU5.out.then hu6 (fun b _ e => e.elim)).then hu7 (fun b hb e => by omega))
  have HR7 : Hid (Row w7 3 (.slice a6 (n - h2) c6) (natsC ((T.get k).kids.drop h2))) := Lib.hid (hr6.upd hu7 (fun b hb e => by have := hn6 b hb; have := heap_lt HY5.out; omega))
  have HN6 : Hid (∀ b, (Value.slice a6 (n - h2) c6).ownBlock = some b → w5.heap.size ≤ b) := Lib.hid hn6
  have HX7 := Lib.hid kX7
  have HY7 := Lib.hid kY7
  have y0 := cell_of kX7 0 (v := .slice la 0 lc) rfl
  have y1 := cell_of kX7 1 (v := .slice (some ⟨g, 0, none⟩) n kc) rfl
  clear hu6 hu7 hr6 hn6 hs7 kX6 kY6
  go_upto_region 11 with (first
    | (go_at_call 58; refine (clipI_any (some ⟨g, 0, none⟩) h2 kc (by omega) (by unfold maxLen; have := HKR.out.len; unfold maxLen at this; omega)).mono ?_; rintro e w9 ⟨rfl, rfl⟩)
    | ((with_reducible refine stopSt 42 _ _ rfl ?_); unfold Stop; refine wpList_store_blk rfl 42 _ _ rfl bX 1 rfl (.slice (some ⟨g, 0, none⟩) h2 h2) rfl _ #[.slice la 0 lc, .slice (some ⟨g, 0, none⟩) h2 h2, .int .i64 (cnt : Int)] _ kX7 (zzB rfl) (by kernel_rfl) rfl rfl ?_; intro w8 kX8 hu8 hs8; have kY8 := hu8.heap HY7.out (show ¬ bY = bX by omega)))
  have HU8 : Hid (Upd (fun b => w.heap.size ≤ b) w w8) := Lib.hid (HU7.out.then hu8 (fun b hb e => by omega))
  obtain ⟨wd, hwd⟩ : ∃ wd, w8.drew = wd := ⟨_, rfl⟩
  have HUd : Hid (Upd (fun b => w.heap.size ≤ b) w wd) := Lib.hid (by rw [← hwd]; exact HU8.out.drew)
  have hTl : V.bT < w.heap.size := heap_lt HKT.out
  have c0d : wd.cell? ⟨V.bT, 0, none⟩ = some (.slice (some ⟨V.gN, 0, none⟩) T.nodes.length V.cN) := cell_of (HUd.out.heap HKT.out (show ¬ w.heap.size ≤ V.bT by omega)) 0 rfl
  have hNl : V.gN < w.heap.size := heap_lt HH.out.row
  have HNd : Hid (wd.heap[V.gN]? = some (.cells V.C 61 (0, 0))) := Lib.hid (HUd.out.heap HH.out.row (show ¬ w.heap.size ≤ V.gN by omega))
  have HXd : Hid (wd.heap[bX]? = some (.cells #[.slice la 0 lc, .slice (some ⟨g, 0, none⟩) h2 h2, .int .i64 (cnt : Int)] 61 (0, 0))) := Lib.hid (by rw [← hwd]; exact kX8)
  have HYd : Hid (wd.heap[bY]? = some (.cells #[.slice none 0 0, .slice a6 (n - h2) c6, .int .i64 0] 61 (0, 0))) := Lib.hid (by rw [← hwd]; exact kY8)
  have HRd : Hid (Row wd 3 (.slice a6 (n - h2) c6) (natsC ((T.get k).kids.drop h2))) := Lib.hid (by
    have h8 := HR7.out.upd hu8 (fun b hb e => by have := HN6.out b hb; have := heap_lt HX5.out; omega)
    rw [← hwd]
    exact h8.upd ((Upd.refl (fun _ => False) _).drew) (fun _ _ h => h))
  clear hu8 hs8 kX8 kY8 kX7 kY7 y0 y1
  refine wp_region_seq (fun v => v = wd) (fun i => i != 7) [(0, true), (1, true), (2, true), (3, true), (4, true), (5, true), (6, true), (7, false)] (by exact rfl) (by kernel_rfl) (by intro c a d v w h; cases d <;> exact h) ?_
  rw [hwd]; have hS : wd = wd := rfl
  iterate 5 (((apply seq_val2 rfl (by rfl); (focus (intro w' hS'; subst hS'; go_simp; (first | done | exact rfl | (rw [if_pos (by omega)]; done)))); (focus exact hS))); (try simp only [Act.put, zzT, zzO, zzS]))
  (apply seq_val2 rfl (by rfl); (focus (intro w' hS'; subst hS'; exact exec_load_blk 61 _ rfl bX rfl 61 #[.slice la 0 lc, .slice (some ⟨g, 0, none⟩) h2 h2, .int .i64 (cnt : Int)] (0, 0) _ HXd.out Try.underlying61 rfl (by kernel_rfl))); (focus exact hS))
  (try simp only [Act.put, zzT, zzO, zzS])
  (apply seq_val2 rfl (by rfl); (focus (intro w' hS'; subst hS'; go_simp; (first | done | exact rfl | (rw [if_pos (by omega)]; done)))); (focus exact hS))
  (try simp only [Act.put, zzT, zzO, zzS])
  refine seq_loud2 rfl (fun K hK => ?_)
  rw [if_pos (by rfl)]; refine wp_store_blk 61 _ _ rfl V.gN (k * 3) rfl (.agg #[.slice la 0 lc, .slice (some ⟨g, 0, none⟩) h2 h2, .int .i64 (cnt : Int)]) rfl V.C (spl V.C (k * 3) [.slice la 0 lc, .slice (some ⟨g, 0, none⟩) h2 h2, .int .i64 (cnt : Int)]) _ HNd.out (by show k * 3 + 3 ≤ V.C.size; omega) (by kernel_rfl) rfl rfl ?_; intro w10 k10 hu10 hs10; refine hK _ _ (fun e => by cases e) ?_; clear hK K
  (try simp only [Act.put, zzT, zzO, zzS])
  refine seq_nil ?_
  have td : TA wd V T := HH.out.newer HUd.out
  obtain ⟨q0, q1, q2, q3, q4⟩ := spl3_at (C := V.C) (i := k * 3) (a := .slice la 0 lc) (b := .slice (some ⟨g, 0, none⟩) h2 h2) (c := .int .i64 (cnt : Int)) hk3
  have hgo : V.own (.K k) = some g := by show (V.kv k).ownBlock = _; rw [HKE.out]; rfl
  have hgN : ¬ g = V.gN := fun e => by have := HH.out.inj (.K k) .N V.gN (by rw [hgo, e]) rfl; cases this
  have hcutrow : Row w10 3 (.slice (some ⟨g, 0, none⟩) h2 h2) (natsC ((T.get k).kids.take h2)) := by
    have h1 := ((HKR.out.cut (m := h2) (by omega)).clip.upd HUd.out (fun b hb e => by have := (HKR.out.cut (m := h2) (by omega)).clip.lt hb; omega)).upd hu10 (fun b hb e => by
      simp only [Value.ownBlock, Option.some.injEq] at hb
      exact hgN (by rw [hb, e]))
    simpa [natsC, List.map_take] using h1
  have hother : Row w10 9 (.slice la 0 lc) (strsC (T.get k).lines) := (HLR.out.upd HUd.out (fun b hb e => by have := HLR.out.lt hb; omega)).upd hu10 (fun b hb e => by have := HH.out.inj (.L k) .N V.gN (by show (V.lv k).ownBlock = _; rw [HLE.out, hb, e]) rfl; cases this)
  obtain ⟨t10, u10, g10⟩ := td.turn (w' := w10) hk ⟨(T.get k).lines, (T.get k).kids.take h2, (T.get k).count⟩ (C' := spl V.C (k * 3) [.slice la 0 lc, .slice (some ⟨g, 0, none⟩) h2 h2, .int .i64 (cnt : Int)]) (l' := .slice la 0 lc) (k' := .slice (some ⟨g, 0, none⟩) h2 h2) (hu10.mono (fun b _ e => .inl e)) k10 q3 (fun i hi => ⟨q4 _ (by omega), q4 _ (by omega), q4 _ (by omega)⟩) q0 q1 (by rw [q2, HCNT.out]) hother hcutrow (fun b hb => .inl (by show (V.lv k).ownBlock = _; rw [HLE.out]; exact hb)) (fun b hb => .inl (by rw [hgo]; exact hb)) (fun b h1 h2 => by have := HH.out.inj (.L k) (.K k) b (by show (V.lv k).ownBlock = _; rw [HLE.out]; exact h1) (by rw [hgo]; exact h2); cases this)
  obtain ⟨V6, hV6⟩ : ∃ V6, V.set k (spl V.C (k * 3) [.slice la 0 lc, .slice (some ⟨g, 0, none⟩) h2 h2, .int .i64 (cnt : Int)]) (.slice la 0 lc) (.slice (some ⟨g, 0, none⟩) h2 h2) = V6 := ⟨_, rfl⟩
  rw [hV6] at t10 g10
  have HT10 := Lib.hid t10
  have HF10 : Hid (Frm w V w10 V6) := Lib.hid ((Frm.newer V HUd.out).trans ⟨u10, g10⟩)
  have HB6 : Hid (V6.bT = V.bT) := Lib.hid g10.1
  have HR10 : Hid (Row w10 3 (.slice a6 (n - h2) c6) (natsC ((T.get k).kids.drop h2))) := Lib.hid (HRd.out.upd hu10 (fun b hb e => by have := HN6.out b hb; have := heap_lt HY5.out; omega))
  have HDL : Hid (∀ b, (Value.slice a6 (n - h2) c6).ownBlock = some b → ∀ s, V6.own s ≠ some b) := Lib.hid (fun b hb s hs => by
    rcases g10.2 s b hs with ⟨t, ht⟩ | h2
    · have := HH.out.lt ht; have := HN6.out b hb; have := heap_lt HX5.out; omega
    · have := HRd.out.lt hb; omega)
  have HY10 : Hid (w10.heap[bY]? = some (.cells #[.slice none 0 0, .slice a6 (n - h2) c6, .int .i64 0] 61 (0, 0))) := Lib.hid (hu10.heap HYd.out (show ¬ bY = V.gN by omega))
  have HNEW : Hid (∀ b, (Value.slice a6 (n - h2) c6).ownBlock = some b → w.heap.size ≤ b) := Lib.hid (fun b hb => by have := HN6.out b hb; have := heap_lt HX5.out; omega)
  have HFR2 : Hid (∀ j ∈ (T.put k ⟨(T.get k).lines, (T.get k).kids.take h2, (T.get k).count⟩).free, j < (T.put k ⟨(T.get k).lines, (T.get k).kids.take h2, (T.get k).count⟩).nodes.length) := Lib.hid (fun j hj => by rw [put_len]; exact HFR.out.1 j hj)
  have hl2 : (T.put k ⟨(T.get k).lines, (T.get k).kids.take h2, (T.get k).count⟩).load ≤ 10000000 := by rw [load_put]; exact HFR.out.2
  have HL2 := Lib.hid hl2
  obtain ⟨T1, hT1⟩ : ∃ T1, T.put k ⟨(T.get k).lines, (T.get k).kids.take h2, (T.get k).count⟩ = T1 := ⟨_, rfl⟩
  rw [hT1] at HT10 HFR2 HL2 HCUT
  clear hT1 hl2 t10 u10 g10 hV6 td hu10 hs10 k10 q0 q1 q2 q3 q4 hcutrow hother hgo
  go_upto_region 13 with (first
    | ((with_reducible refine stopLd 61 _ rfl ?_); unfold Stop; refine wpList_load_row rfl 61 _ rfl _ rfl 61 _ (0, 0) _ HY10.out Try.underlying61 rfl (by kernel_rfl) ?_)
    | (go_at_call 30; refine (make_at HB6.out HT10.out ⟨[], (T.get k).kids.drop h2, 0⟩ (.slice none 0 0) (.slice a6 (n - h2) c6) (.nil _ _) HR10.out (fun b hb => by cases hb) HDL.out (fun b h1 h2 => by cases h1) HFR2.out HL2.out).mono ?_; rintro e w11 ⟨rfl, hm⟩; rw [← HCUT.out] at hm ⊢; have HM := Lib.hid hm; clear hm))
  obtain ⟨V7, t7, u7, b7, g7⟩ := HM.out
  have HT7 := Lib.hid t7
  have HF7 : Hid (Frm w V w11 V7) := Lib.hid (HF10.out.make u7 b7 g7 (fun b hb => by cases hb) (fun b hb => .inr (HNEW.out b hb)))
  have HB7 : Hid (V7.bT = V.bT) := Lib.hid (b7.trans HB6.out)
  clear HM t7 u7 b7 g7
  go_upto_region 14 with (first
    | (go_at_call 31; refine (sum_at HB7.out HT7.out HFC1.out).mono ?_; rintro e w12 ⟨rfl, hm⟩; have HM := Lib.hid hm; clear hm))
  obtain ⟨V8, t8, f8⟩ := HM.out
  have HT8 := Lib.hid t8
  have HF8 : Hid (Frm w V w12 V8) := Lib.hid (HF7.out.trans f8)
  have HB8 : Hid (V8.bT = V.bT) := Lib.hid HF8.out.2.1
  clear HM t8 f8
  go_wp2_with (first
    | (go_at_call 31; refine (sum_at HB8.out HT8.out HFC2.out).mono ?_; rintro e w13 ⟨rfl, hm⟩; have HM := Lib.hid hm; clear hm))
  go_ret
  obtain ⟨V9, t9, f9⟩ := HM.out
  have f := HF8.out.trans f9
  exact ⟨rfl, V9, t9, f.1, f.2⟩
theorem split_any {w : World} {V : TV} {T : TD} {b : Nat} (hb : V.bT = b) (h : TA w V T) {k : Nat} (hf : T.fine k) (hss : SafeSplit T k) :
    Calls Try.prog 48 #[.pointer (some ⟨b, 0, none⟩), .int .i64 (k : Int)] w fun e w' => e = .returned (.int .i64 (optI (T.split k).1)) ∧ TPost w V (T.split k).2 w' := by
  subst hb
  by_cases hs : (T.get k).size ≤ 8
  · exact split_small h hf hs
  · by_cases hkk : (T.get k).kids = []
    · exact split_leaf h hf (by omega) hss hkk
    · exact split_node h hf (by omega) hss hkk
end Go.Proofs.Ytmklapbecdhnmaa
