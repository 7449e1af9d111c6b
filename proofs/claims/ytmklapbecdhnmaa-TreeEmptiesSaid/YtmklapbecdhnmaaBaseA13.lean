/- Lemmas that the law's proof stands on, part 13: Twl. No condition. -/
import Derived.Test.YtmklapbecdhnmaaBaseA0
import Derived.Test.YtmklapbecdhnmaaBaseA12
set_option linter.all false
set_option linter.unusedVariables false
set_option linter.unusedSimpArgs false
namespace Go.Proofs.Ytmklapbecdhnmaa
open Go.RowKit
set_option maxRecDepth 100000 in
set_option maxHeartbeats 16000000 in
theorem move_S_back {w : World} {V : TV} {T : TD} {b : Nat} (hb : V.bT = b) (h : TA w V T) {a c : Nat} (hs : SafeMove T a c true) (hl : (T.get a).kids = []) :
    Calls Try.prog 60 #[.pointer (some ⟨b, 0, none⟩), .int .i64 (a : Int), .int .i64 (c : Int), .bool true] w fun e w' => e = .returned (.tuple #[]) ∧ TPost w V (T.move a c true) w' := by
  subst hb
  obtain ⟨fa, fc, hac, hsz, fm1, fm2⟩ := hs
  have HH := Lib.hid h
  have ha := fa.lt
  have hc := fc.lt
  obtain ⟨n, hn⟩ : ∃ n, (T.get a).lines.length = n := ⟨_, rfl⟩
  obtain ⟨nc0, hnc⟩ : ∃ n, (T.get c).lines.length = n := ⟨_, rfl⟩
  obtain ⟨nk, hnk⟩ : ∃ n, (T.get a).kids.length = n := ⟨_, rfl⟩
  have hn0 : 0 < n := by have h1 := hsz; unfold ND.size at h1; rw [hl] at h1; simp only [List.length_nil, Nat.add_zero] at h1; omega
  have hn1 : n ≤ 100 := by rw [← hn]; exact fa.lines
  have hnc1 : nc0 ≤ 100 := by rw [← hnc]; exact fc.lines
  obtain ⟨m, hm⟩ : ∃ m, n = m + 1 := ⟨n - 1, by omega⟩
  have gm : IntKind.i64.wrap ((n : Int) - 1) = (m : Int) := by rw [show (n : Int) - 1 = (m : Int) by omega]; exact IntWalk.i64_in _ (by omega)
  have gmn : m < n := by omega
  have gk0 : ((nk : Int) == 0) = true := by rw [← hnk, hl]; rfl
  obtain ⟨x, hx⟩ : ∃ x, (T.get a).lines.getD m ⟨#[]⟩ = x := ⟨_, rfl⟩
  have hmv : T.move a c true = (((T.put c { T.get c with lines := insL (T.get c).lines 0 x }).put a { T.get a with lines := (T.get a).lines.take m }).sum a).sum c := by
    unfold TD.move TD.moved
    rw [if_pos hl, if_pos rfl, hn, show n - 1 = m by omega, hx]
  have hmd : T.moved a c true = (T.put c { T.get c with lines := insL (T.get c).lines 0 x }).put a { T.get a with lines := (T.get a).lines.take m } := by
    unfold TD.moved
    rw [if_pos hl, if_pos rfl, hn, show n - 1 = m by omega, hx]
  rw [hmd] at fm1 fm2
  rw [hmv]
  have HF1 := Lib.hid fm1
  have HF2 := Lib.hid fm2
  have HNA := Lib.hid hn
  have HLC : Hid ((strsC (T.get c).lines).length = nc0) := Lib.hid (by rw [← hnc]; simp [strsC, natsC])
  have kT := h.blk
  unfold treeC TV.nv at kT
  have hcap := h.cap
  have hmax := h.max
  unfold maxLen at hmax
  have c0 := cell_of kT 0 (v := .slice (some ⟨V.gN, 0, none⟩) T.nodes.length V.cN) rfl
  obtain ⟨i0, hi, hz0, hz3, hz4⟩ := info_parts info_str1
  have HGX : Hid ((T.get a).lines[m]? = some x) := Lib.hid (by rw [← hx, List.getD_eq_getElem?_getD, List.getElem?_eq_getElem (by omega)]; rfl)
  have HNK := Lib.hid hnk
  clear hsz fa fc fm1 fm2 hn hnc hnk hl hx hmv hmd h kT hm
  go_enter Try.func60, Try.ntmps60
  go_upto_region 0 with fail
  first | (refine wq_region_from_still ?_) | (refine wq_region_from (by kernel_rfl) (by kernel_rfl) ?_)
  repeat
    first
      | ((refine WQ_skip (by rfl) ?_); (try simp only [Act.put, zzT, zzO, zzS]))
      | (apply WQ_val (by rfl); (focus (intro w' hC; (have e0 := From.cell hC c0); go_simp; (first | done | exact rfl | (rw [if_pos (by omega)]; done) | (exact str_idx (by omega))))); (try simp only [Act.put, zzT, zzO, zzS]))
      | (apply WQ_call (by rfl); (focus (intro w' hC; go_simp; (first | done | exact rfl | exact ⟨rfl, rfl⟩))); (focus (intro w' hC; first | fail)); (try simp only [Act.put, zzT, zzO, zzS]))
  refine WQ_nil ?_
  intro wq hq
  have H1 : Hid (TA wq V T) := Lib.hid (HH.out.upd (false_upd2 hq) (fun _ _ _ e => e))
  have HQ : Hid (Frm w V wq V) := Lib.hid (Frm.from_ V hq)
  clear hq c0
  obtain ⟨ava, avc, eva⟩ := (H1.out.lin a ha).form
  obtain ⟨cva, cvc, evc⟩ := (H1.out.lin c hc).form
  rw [show (strsC (T.get a).lines).length = n by rw [← HNA.out]; simp [strsC, natsC]] at eva
  rw [HLC.out] at evc
  have HRA : Hid (Row wq 9 (.slice ava n avc) (strsC (T.get a).lines)) := Lib.hid (eva ▸ H1.out.lin a ha)
  have HRC : Hid (Row wq 9 (.slice cva nc0 cvc) (strsC (T.get c).lines)) := Lib.hid (evc ▸ H1.out.lin c hc)
  have HVA := Lib.hid eva
  have HVC := Lib.hid evc
  have kN := H1.out.row
  have na : wq.cell? ⟨V.gN, a * 3, none⟩ = some (.slice ava n avc) := cell_of kN _ (by rw [← HVA.out]; exact (H1.out.cel a ha).1)
  have nc : wq.cell? ⟨V.gN, c * 3, none⟩ = some (.slice cva nc0 cvc) := cell_of kN _ (by rw [← HVC.out]; exact (H1.out.cel c hc).1)
  obtain ⟨ka, kc, ek⟩ := (H1.out.kid a ha).form
  rw [show (natsC (T.get a).kids).length = nk by rw [← HNK.out]; simp [natsC]] at ek
  have nk1 : wq.cell? ⟨V.gN, a * 3 + 1, none⟩ = some (.slice ka nk kc) := cell_of kN _ (by rw [← ek]; exact (H1.out.cel a ha).2.1)
  obtain ⟨g, hg⟩ := HRA.out.addr (by rw [strsC, List.length_map, HNA.out]; omega)
  subst hg
  have e1 : wq.cell? ⟨g, m, none⟩ = some (.string x) := by
    have := HRA.out.cells0 m (.string x) (by rw [strsC, List.getElem?_map, HGX.out]; rfl)
    rwa [Nat.zero_add] at this
  have hoN : ¬ V.own (.L c) = some V.gN := fun e => by have := H1.out.inj (.L c) .N V.gN e rfl; cases this
  have hog : ¬ V.own (.L c) = some g := fun e => by have := H1.out.inj (.L c) (.L a) g e (by show (V.lv a).ownBlock = _; rw [HVA.out]; rfl); injection this with this; exact hac this.symm
  have hcz : (strsC (T.get c).lines).length ≤ 100 := by rw [HLC.out]; exact hnc1
  have hcz2 : (T.get c).lines.length ≤ 100 := by have := HLC.out; simp [strsC, natsC] at this; omega
  have glc : n ≤ avc := HRA.out.len.2.1
  have hc3 : c * 3 + 3 ≤ V.C.size := node_cells H1.out hc
  clear eva evc ek
  go_upto_region 5 with (first
    | (go_at_call 44; refine (leaf_any V.gN (a * 3) _ _ _ nk1).mono ?_; rintro e w9 ⟨rfl, rfl⟩))
  refine wp_region_seq (fun v => Upd (fun b => V.own (.L c) = some b) wq v) (fun i => i != 16) [(0, true), (1, true), (2, true), (3, true), (4, true), (5, true), (6, true), (7, true), (8, true), (9, true), (10, true), (11, true), (12, false), (13, false), (14, true), (15, true), (16, false)] (by exact rfl) (by kernel_rfl) (by intro c a d v w h; cases d <;> exact h) ?_
  have hS : Upd (fun b => V.own (.L c) = some b) wq wq.drew := (Upd.refl _ wq).drew
  iterate 12 (((apply seq_val2 rfl (by rfl); (focus (intro w' hS'; have s0 := hS'.cell nc hoN; have s1 := hS'.cell na hoN; have s2 := hS'.cell e1 hog; go_simp; (first | done | exact rfl | (rw [if_pos (by omega)]; done)))); (focus exact hS))); (try simp only [Act.put, zzT, zzO, zzS]))
  refine seq_loud2 rfl (fun K hK => ?_)
  go_simp; obtain ⟨w2, hw2, k2, hS2, hz2, hS0⟩ : ∃ w2, (wq.alloc (.cells #[(.string x)] 9)).drew = w2 ∧ w2.heap[wq.heap.size]? = some (.cells #[(.string x)] 9 (0, 0)) ∧ Upd (fun b => V.own (.L c) = some b) wq w2 ∧ w2.heap.size = wq.heap.size + 1 ∧ Hid (Upd (fun _ => False) wq w2) := ⟨_, rfl, heap_alloc_new wq _, ((Upd.refl _ wq).alloc _).drew, by simp, Lib.hid ((Upd.refl _ wq).alloc _).drew⟩; rw [hw2]; clear hS; have hS := hS2; clear hS2 hw2; have HZ2 := Lib.hid hz2; clear hz2; refine hK _ _ (fun _ => hS) ?_; clear hK K
  (try simp only [Act.put, zzT, zzO, zzS])
  apply seq_call2 (fun v w' => Row w' 9 v (insL (strsC (T.get c).lines) 0 (.string x)) ∧ Upd (fun b => V.own (.L c) = some b) wq w' ∧ Near wq (V.lv c) v) rfl (by rfl)
  focus (go_simp; (first | done | exact rfl | exact ⟨rfl, rfl⟩))
  focus (refine (insS_any (HRC.out.upd hS0.out (fun _ _ h => h)) (strsC_ones _) 0 (Nat.zero_le _) (.string x) rfl wq.heap.size k2 (fun e => by have := HRC.out.lt e; omega) (by simp [strsC, natsC]; omega)).mono ?_; rintro e w' ⟨v', rfl, hr, hu, hn⟩; exact ⟨v', rfl, hr, hS.then hu (fun b _ e => by show (V.lv c).ownBlock = _; rw [HVC.out]; exact e), fun b hb => (hn b hb).imp (fun e => by rw [HVC.out]; exact e) (fun e => by have := HZ2.out; omega)⟩)
  rintro v3 w3 ⟨hr3, hS3, hn3⟩; clear hS; have hS := hS3; clear hS3; obtain ⟨a3, c3, e3⟩ := hr3.form; rw [insL_lens] at e3; subst e3; have s33 := hS.cell nc hoN; have f33 := free_of (hS.heap kN hoN) (c * 3); refine ⟨fun _ => hS, ?_⟩
  (try simp only [Act.put, zzT, zzO, zzS])
  iterate 2 (((apply seq_val2 rfl (by rfl); (focus (intro w' hS'; have s0 := hS'.cell nc hoN; have s1 := hS'.cell na hoN; have s2 := hS'.cell e1 hog; go_simp; (first | done | exact rfl | (rw [if_pos (by omega)]; done)))); (focus exact hS))); (try simp only [Act.put, zzT, zzO, zzS]))
  refine seq_loud2 rfl (fun K hK => ?_)
  go_simp; refine hK _ _ (fun e => by cases e) ?_; clear hK K
  (try simp only [Act.put, zzT, zzO, zzS])
  refine seq_nil ?_
  obtain ⟨hU5, hb5⟩ := cell_setc (i := c * 3) hS kN hoN (.slice a3 ((strsC (T.get c).lines).length + 1) c3)
  obtain ⟨w5, hw5⟩ : ∃ w5, w3.setCell ⟨V.gN, c * 3, none⟩ (.slice a3 ((strsC (T.get c).lines).length + 1) c3) = w5 := ⟨_, rfl⟩
  rw [hw5] at hU5 hb5 ⊢
  obtain ⟨V5, t5, f5, g5, _⟩ := H1.out.lput hc (insL (T.get c).lines 0 x) hS (by rw [show strsC (insL (T.get c).lines 0 x) = insL (strsC (T.get c).lines) 0 (.string x) from insL_map _ _ _ _]; exact hr3) hn3 hU5 hb5
  obtain ⟨T5, hT5⟩ : ∃ T5, T.put c { T.get c with lines := insL (T.get c).lines 0 x } = T5 := ⟨_, rfl⟩
  have ha5 : a < T5.nodes.length := by rw [← hT5, put_len]; exact ha
  have hga : T5.get a = T.get a := by rw [← hT5, get_put T _ hc, if_neg hac]
  rw [hT5] at t5
  have HT5 := Lib.hid t5
  have HF5 : Hid (Frm w V w5 V5) := Lib.hid (HQ.out.trans f5)
  have HTE := Lib.hid hT5
  have HGA := Lib.hid hga
  have HG5 := Lib.hid g5
  obtain ⟨xa, xc, ex⟩ := (t5.lin a ha5).form
  rw [hga, show (strsC (T.get a).lines).length = n by rw [← HNA.out]; simp [strsC, natsC]] at ex
  have HVA5 := Lib.hid ex
  have HRA5 : Hid (Row w5 9 (.slice xa n xc) (strsC (T.get a).lines)) := Lib.hid (by have := t5.lin a ha5; rw [ex, hga] at this; exact this)
  have kN5 : w5.heap[V.gN]? = some (.cells V5.C 61 (0, 0)) := by rw [← g5]; exact t5.row
  have na5 : w5.cell? ⟨V.gN, a * 3, none⟩ = some (.slice xa n xc) := cell_of kN5 _ (by rw [← ex]; exact (t5.cel a ha5).1)
  have ha3 : a * 3 + 3 ≤ V5.C.size := node_cells t5 ha5
  have glc5 : n ≤ xc := HRA5.out.len.2.1
  have gmx : m ≤ xc := by omega
  have gxm : xc ≤ 9223372036854775807 := by have := HRA5.out.len.2.2; unfold maxLen at this; omega
  have hoa : ¬ (Value.slice xa n xc).ownBlock = some V.gN := fun e => by have := HT5.out.inj (.L a) .N V.gN (by show (V5.lv a).ownBlock = _; rw [HVA5.out]; exact e) (by rw [← HG5.out]; rfl); cases this
  have hla : 0 < (T.get a).lines.length := by rw [HNA.out]; omega
  clear t5 f5 g5 hT5 hga ex hU5 hb5 hw5 hr3 hn3 hS s33 f33 na nc nk1 e1 kN k2
  go_upto_region 14 with (first
    | ((with_reducible refine stopSt 22 _ _ rfl ?_); unfold Stop; refine wpList_store_blk rfl 22 _ _ rfl V.gN (a * 3) rfl (.slice xa m xc) rfl V5.C (V5.C.setIfInBounds (a * 3) (.slice xa m xc)) _ kN5 (by show a * 3 + 1 ≤ _; omega) (by kernel_rfl) rfl rfl ?_; intro w6 k6 hu6 hs6))
  obtain ⟨V7, t7, f7, g7, _⟩ := HT5.out.lput (w3 := w5) (w5 := w6) ha5 ((T.get a).lines.take m) (Upd.refl _ _) (by have := (HRA5.out.cut (m := m) (by omega)); simpa [strsC, natsC, List.map_take] using this) (fun b hb => .inl (by rw [HVA5.out]; obtain ⟨g5, hg5⟩ := HRA5.out.addr (by rw [strsC, List.length_map]; exact hla); rw [hg5] at hb ⊢; exact hb)) (by rw [HG5.out]; exact hu6) (by rw [HG5.out]; exact k6)
  rw [HGA.out] at t7
  have HT7 := Lib.hid t7
  have HF7 : Hid (Frm w V w6 V7) := Lib.hid (HF5.out.trans f7)
  have HB7 : Hid (V7.bT = V.bT) := Lib.hid HF7.out.2.1
  clear t7 f7 g7 hu6 k6 hs6 na5 kN5
  have HX1 := HF1.out
  have HX2 := HF2.out
  rw [HTE.out] at HX1 HX2
  have HY1 := Lib.hid HX1
  have HY2 := Lib.hid HX2
  clear HX1 HX2
  go_upto_region 15 with (first
    | (go_at_call 31; refine (sum_at HB7.out HT7.out HY1.out).mono ?_; rintro e w9 ⟨rfl, hm⟩; obtain ⟨V8, t8, f8⟩ := hm; have HT8 := Lib.hid t8; have HF8 := Lib.hid (HF7.out.trans f8); have HB8 : Hid (V8.bT = V.bT) := Lib.hid HF8.out.2.1; clear t8 f8))
  go_wp2_with (first
    | (go_at_call 31; refine (sum_at HB8.out HT8.out HY2.out).mono ?_; rintro e w10 ⟨rfl, hm⟩; obtain ⟨V9, t9, f9⟩ := hm; have HT9 := Lib.hid t9; have HF9 := Lib.hid (HF8.out.trans f9); clear t9 f9))
  go_end0
  have hr := HT9.out
  rw [← HTE.out] at hr
  exact ⟨rfl, TPost.of HF9.out hr⟩
set_option maxRecDepth 100000 in
set_option maxHeartbeats 16000000 in
theorem move_S_front {w : World} {V : TV} {T : TD} {b : Nat} (hb : V.bT = b) (h : TA w V T) {a c : Nat} (hs : SafeMove T a c false) (hl : (T.get a).kids = []) :
    Calls Try.prog 60 #[.pointer (some ⟨b, 0, none⟩), .int .i64 (a : Int), .int .i64 (c : Int), .bool false] w fun e w' => e = .returned (.tuple #[]) ∧ TPost w V (T.move a c false) w' := by
  subst hb
  obtain ⟨fa, fc, hac, hsz, fm1, fm2⟩ := hs
  have HH := Lib.hid h
  have ha := fa.lt
  have hc := fc.lt
  obtain ⟨n, hn⟩ : ∃ n, (T.get a).lines.length = n := ⟨_, rfl⟩
  obtain ⟨nc0, hnc⟩ : ∃ n, (T.get c).lines.length = n := ⟨_, rfl⟩
  obtain ⟨nk, hnk⟩ : ∃ n, (T.get a).kids.length = n := ⟨_, rfl⟩
  have hn0 : 0 < n := by have h1 := hsz; unfold ND.size at h1; rw [hl] at h1; simp only [List.length_nil, Nat.add_zero] at h1; omega
  have hn1 : n ≤ 100 := by rw [← hn]; exact fa.lines
  have hnc1 : nc0 ≤ 100 := by rw [← hnc]; exact fc.lines
  obtain ⟨m, hm⟩ : ∃ m, n = m + 1 := ⟨n - 1, by omega⟩
  have gm : IntKind.i64.wrap ((n : Int) - 1) = (m : Int) := by rw [show (n : Int) - 1 = (m : Int) by omega]; exact IntWalk.i64_in _ (by omega)
  have gmn : m < n := by omega
  have gk0 : ((nk : Int) == 0) = true := by rw [← hnk, hl]; rfl
  obtain ⟨x, hx⟩ : ∃ x, (T.get a).lines.getD 0 ⟨#[]⟩ = x := ⟨_, rfl⟩
  have hmv : T.move a c false = (((T.put c { T.get c with lines := (T.get c).lines ++ [x] }).put a { T.get a with lines := delL (T.get a).lines 0 }).sum a).sum c := by
    unfold TD.move TD.moved
    rw [if_pos hl, if_neg (by decide), hx]
  have hmd : T.moved a c false = (T.put c { T.get c with lines := (T.get c).lines ++ [x] }).put a { T.get a with lines := delL (T.get a).lines 0 } := by
    unfold TD.moved
    rw [if_pos hl, if_neg (by decide), hx]
  rw [hmd] at fm1 fm2
  rw [hmv]
  have HF1 := Lib.hid fm1
  have HF2 := Lib.hid fm2
  have HNA := Lib.hid hn
  have HLC : Hid ((strsC (T.get c).lines).length = nc0) := Lib.hid (by rw [← hnc]; simp [strsC, natsC])
  have kT := h.blk
  unfold treeC TV.nv at kT
  have hcap := h.cap
  have hmax := h.max
  unfold maxLen at hmax
  have c0 := cell_of kT 0 (v := .slice (some ⟨V.gN, 0, none⟩) T.nodes.length V.cN) rfl
  obtain ⟨i0, hi, hz0, hz3, hz4⟩ := info_parts info_str1
  have HGX : Hid ((T.get a).lines[0]? = some x) := Lib.hid (by rw [← hx, List.getD_eq_getElem?_getD, List.getElem?_eq_getElem (by omega)]; rfl)
  have HNK := Lib.hid hnk
  clear hsz fa fc fm1 fm2 hn hnc hnk hl hx hmv hmd h kT hm
  go_enter Try.func60, Try.ntmps60
  go_upto_region 0 with fail
  first | (refine wq_region_from_still ?_) | (refine wq_region_from (by kernel_rfl) (by kernel_rfl) ?_)
  repeat
    first
      | ((refine WQ_skip (by rfl) ?_); (try simp only [Act.put, zzT, zzO, zzS]))
      | (apply WQ_val (by rfl); (focus (intro w' hC; (have e0 := From.cell hC c0); go_simp; (first | done | exact rfl | (rw [if_pos (by omega)]; done) | (exact str_idx (by omega))))); (try simp only [Act.put, zzT, zzO, zzS]))
      | (apply WQ_call (by rfl); (focus (intro w' hC; go_simp; (first | done | exact rfl | exact ⟨rfl, rfl⟩))); (focus (intro w' hC; first | fail)); (try simp only [Act.put, zzT, zzO, zzS]))
  refine WQ_nil ?_
  intro wq hq
  have H1 : Hid (TA wq V T) := Lib.hid (HH.out.upd (false_upd2 hq) (fun _ _ _ e => e))
  have HQ : Hid (Frm w V wq V) := Lib.hid (Frm.from_ V hq)
  clear hq c0
  obtain ⟨ava, avc, eva⟩ := (H1.out.lin a ha).form
  obtain ⟨cva, cvc, evc⟩ := (H1.out.lin c hc).form
  rw [show (strsC (T.get a).lines).length = n by rw [← HNA.out]; simp [strsC, natsC]] at eva
  rw [HLC.out] at evc
  have HRA : Hid (Row wq 9 (.slice ava n avc) (strsC (T.get a).lines)) := Lib.hid (eva ▸ H1.out.lin a ha)
  have HRC : Hid (Row wq 9 (.slice cva nc0 cvc) (strsC (T.get c).lines)) := Lib.hid (evc ▸ H1.out.lin c hc)
  have HVA := Lib.hid eva
  have HVC := Lib.hid evc
  have kN := H1.out.row
  have na : wq.cell? ⟨V.gN, a * 3, none⟩ = some (.slice ava n avc) := cell_of kN _ (by rw [← HVA.out]; exact (H1.out.cel a ha).1)
  have nc : wq.cell? ⟨V.gN, c * 3, none⟩ = some (.slice cva nc0 cvc) := cell_of kN _ (by rw [← HVC.out]; exact (H1.out.cel c hc).1)
  obtain ⟨ka, kc, ek⟩ := (H1.out.kid a ha).form
  rw [show (natsC (T.get a).kids).length = nk by rw [← HNK.out]; simp [natsC]] at ek
  have nk1 : wq.cell? ⟨V.gN, a * 3 + 1, none⟩ = some (.slice ka nk kc) := cell_of kN _ (by rw [← ek]; exact (H1.out.cel a ha).2.1)
  obtain ⟨g, hg⟩ := HRA.out.addr (by rw [strsC, List.length_map, HNA.out]; omega)
  subst hg
  have e1 : wq.cell? ⟨g, 0, none⟩ = some (.string x) := by
    have := HRA.out.cells0 0 (.string x) (by rw [strsC, List.getElem?_map, HGX.out]; rfl)
    rwa [Nat.zero_add] at this
  have hoN : ¬ V.own (.L c) = some V.gN := fun e => by have := H1.out.inj (.L c) .N V.gN e rfl; cases this
  have hog : ¬ V.own (.L c) = some g := fun e => by have := H1.out.inj (.L c) (.L a) g e (by show (V.lv a).ownBlock = _; rw [HVA.out]; rfl); injection this with this; exact hac this.symm
  have hcz : (strsC (T.get c).lines).length ≤ 100 := by rw [HLC.out]; exact hnc1
  have hcz2 : (T.get c).lines.length ≤ 100 := by have := HLC.out; simp [strsC, natsC] at this; omega
  have glc : n ≤ avc := HRA.out.len.2.1
  have hc3 : c * 3 + 3 ≤ V.C.size := node_cells H1.out hc
  clear eva evc ek
  go_upto_region 8 with (first
    | (go_at_call 44; refine (leaf_any V.gN (a * 3) _ _ _ nk1).mono ?_; rintro e w9 ⟨rfl, rfl⟩))
  refine wp_region_seq (fun v => Upd (fun b => V.own (.L c) = some b) wq v) (fun i => i != 15) [(0, true), (1, true), (2, true), (3, true), (4, true), (5, true), (6, true), (7, true), (8, true), (9, true), (10, true), (11, false), (12, false), (13, true), (14, true), (15, false)] (by exact rfl) (by kernel_rfl) (by intro c a d v w h; cases d <;> exact h) ?_
  have hS : Upd (fun b => V.own (.L c) = some b) wq wq.drew := (Upd.refl _ wq).drew
  iterate 11 (((apply seq_val2 rfl (by rfl); (focus (intro w' hS'; have s0 := hS'.cell nc hoN; have s1 := hS'.cell na hoN; have s2 := hS'.cell e1 hog; go_simp; (first | done | exact rfl | (rw [if_pos (by omega)]; done)))); (focus exact hS))); (try simp only [Act.put, zzT, zzO, zzS]))
  refine seq_loud2 rfl (fun K hK => ?_)
  go_simp; obtain ⟨w2, hw2, k2, hS2, hz2, hS0⟩ : ∃ w2, (wq.alloc (.cells #[(.string x)] 9)).drew = w2 ∧ w2.heap[wq.heap.size]? = some (.cells #[(.string x)] 9 (0, 0)) ∧ Upd (fun b => V.own (.L c) = some b) wq w2 ∧ w2.heap.size = wq.heap.size + 1 ∧ Hid (Upd (fun _ => False) wq w2) := ⟨_, rfl, heap_alloc_new wq _, ((Upd.refl _ wq).alloc _).drew, by simp, Lib.hid ((Upd.refl _ wq).alloc _).drew⟩; rw [hw2]; clear hS; have hS := hS2; clear hS2 hw2; have HZ2 := Lib.hid hz2; clear hz2; refine hK _ _ (fun _ => hS) ?_; clear hK K
  (try simp only [Act.put, zzT, zzO, zzS])
  refine seq_loud2 rfl (fun K hK => ?_)
  rw [if_pos (by rfl)]; refine wp_append_rows _ _ _ 22 rfl 9 i0 _ 16 Try.underlying22 hi hz0 hz3 hz4 rfl (.slice cva nc0 cvc) rfl (strsC (T.get c).lines) (HRC.out.upd hS0.out (fun _ _ h => h)) (.slice (some ⟨wq.heap.size, 0, none⟩) 1 1) rfl [(.string x)] (row_lit k2) (fun u hu => by simp only [List.mem_cons, List.not_mem_nil, or_false] at hu; rw [hu]; rfl) (by rw [HLC.out]; unfold maxLen; show nc0 + 1 ≤ _; omega) (by rw [HLC.out]; show (nc0 + 1) * 16 ≤ _; omega) ?_; intro v3 w3 hr3 hu hn; have hS3 : Upd (fun b => V.own (.L c) = some b) wq w3 := hS.then hu (fun b _ e => by show (V.lv c).ownBlock = _; rw [HVC.out]; exact e); have hn3 : Near wq (V.lv c) v3 := fun b hb => (hn b hb).imp (fun e => by rw [HVC.out]; exact e) (fun e => by have := HZ2.out; omega); clear hS; have hS := hS3; clear hS3 hu hn; obtain ⟨a3, c3, e3⟩ := hr3.form; simp only [List.length_append, List.length_cons, List.length_nil, Nat.zero_add] at e3; subst e3; have s33 := hS.cell nc hoN; have f33 := free_of (hS.heap kN hoN) (c * 3); refine hK _ _ (fun _ => hS) ?_; clear hK K
  (try simp only [Act.put, zzT, zzO, zzS])
  iterate 2 (((apply seq_val2 rfl (by rfl); (focus (intro w' hS'; have s0 := hS'.cell nc hoN; have s1 := hS'.cell na hoN; have s2 := hS'.cell e1 hog; go_simp; (first | done | exact rfl | (rw [if_pos (by omega)]; done)))); (focus exact hS))); (try simp only [Act.put, zzT, zzO, zzS]))
  refine seq_loud2 rfl (fun K hK => ?_)
  go_simp; refine hK _ _ (fun e => by cases e) ?_; clear hK K
  (try simp only [Act.put, zzT, zzO, zzS])
  refine seq_nil ?_
  obtain ⟨hU5, hb5⟩ := cell_setc (i := c * 3) hS kN hoN (.slice a3 ((strsC (T.get c).lines).length + 1) c3)
  obtain ⟨w5, hw5⟩ : ∃ w5, w3.setCell ⟨V.gN, c * 3, none⟩ (.slice a3 ((strsC (T.get c).lines).length + 1) c3) = w5 := ⟨_, rfl⟩
  rw [hw5] at hU5 hb5 ⊢
  obtain ⟨V5, t5, f5, g5, _⟩ := H1.out.lput hc ((T.get c).lines ++ [x]) hS (by rw [show strsC ((T.get c).lines ++ [x]) = strsC (T.get c).lines ++ [(.string x)] by simp [strsC, natsC, natV]]; exact hr3) hn3 hU5 hb5
  obtain ⟨T5, hT5⟩ : ∃ T5, T.put c { T.get c with lines := (T.get c).lines ++ [x] } = T5 := ⟨_, rfl⟩
  have ha5 : a < T5.nodes.length := by rw [← hT5, put_len]; exact ha
  have hga : T5.get a = T.get a := by rw [← hT5, get_put T _ hc, if_neg hac]
  rw [hT5] at t5
  have HT5 := Lib.hid t5
  have HF5 : Hid (Frm w V w5 V5) := Lib.hid (HQ.out.trans f5)
  have HTE := Lib.hid hT5
  have HGA := Lib.hid hga
  have HG5 := Lib.hid g5
  obtain ⟨xa, xc, ex⟩ := (t5.lin a ha5).form
  rw [hga, show (strsC (T.get a).lines).length = n by rw [← HNA.out]; simp [strsC, natsC]] at ex
  have HVA5 := Lib.hid ex
  have HRA5 : Hid (Row w5 9 (.slice xa n xc) (strsC (T.get a).lines)) := Lib.hid (by have := t5.lin a ha5; rw [ex, hga] at this; exact this)
  have kN5 : w5.heap[V.gN]? = some (.cells V5.C 61 (0, 0)) := by rw [← g5]; exact t5.row
  have na5 : w5.cell? ⟨V.gN, a * 3, none⟩ = some (.slice xa n xc) := cell_of kN5 _ (by rw [← ex]; exact (t5.cel a ha5).1)
  have ha3 : a * 3 + 3 ≤ V5.C.size := node_cells t5 ha5
  have glc5 : n ≤ xc := HRA5.out.len.2.1
  have gmx : m ≤ xc := by omega
  have gxm : xc ≤ 9223372036854775807 := by have := HRA5.out.len.2.2; unfold maxLen at this; omega
  have hoa : ¬ (Value.slice xa n xc).ownBlock = some V.gN := fun e => by have := HT5.out.inj (.L a) .N V.gN (by show (V5.lv a).ownBlock = _; rw [HVA5.out]; exact e) (by rw [← HG5.out]; rfl); cases this
  have hla : 0 < (T.get a).lines.length := by rw [HNA.out]; omega
  clear t5 f5 g5 hT5 hga ex hU5 hb5 hw5 hr3 hn3 hS s33 f33 na nc nk1 e1 kN k2
  go_upto_region 14 with (first
    | (go_at_call 49; refine (delS_any HRA5.out 0 (by omega)).mono ?_; rintro e w8 ⟨v8, rfl, hr8, hu8, hn8⟩; obtain ⟨a8, n8, c8, e8⟩ : ∃ a n c, v8 = Value.slice a n c := (let ⟨a, c, e⟩ := hr8.form; ⟨a, _, c, e⟩); subst e8; have kN8 := hu8.heap kN5 hoa)
    | ((with_reducible refine stopSt 22 _ _ rfl ?_); unfold Stop; refine wpList_store_blk rfl 22 _ _ rfl V.gN (a * 3) rfl (.slice a8 n8 c8) rfl V5.C (V5.C.setIfInBounds (a * 3) (.slice a8 n8 c8)) _ kN8 (by show a * 3 + 1 ≤ _; omega) (by kernel_rfl) rfl rfl ?_; intro w6 k6 hu6 hs6))
  obtain ⟨V7, t7, f7, g7, _⟩ := HT5.out.lput (w3 := w8) (w5 := w6) ha5 (delL (T.get a).lines 0) (hu8.mono (fun b _ e => by show (V5.lv a).ownBlock = _; rw [HVA5.out]; exact e)) (hr8) (fun b hb => (hn8 b hb).imp (fun e => by rw [HVA5.out]; exact e) id) (by rw [HG5.out]; exact hu6) (by rw [HG5.out]; exact k6)
  rw [HGA.out] at t7
  have HT7 := Lib.hid t7
  have HF7 : Hid (Frm w V w6 V7) := Lib.hid (HF5.out.trans f7)
  have HB7 : Hid (V7.bT = V.bT) := Lib.hid HF7.out.2.1
  clear t7 f7 g7 hu6 k6 hs6 na5 kN5
  have HX1 := HF1.out
  have HX2 := HF2.out
  rw [HTE.out] at HX1 HX2
  have HY1 := Lib.hid HX1
  have HY2 := Lib.hid HX2
  clear HX1 HX2
  go_upto_region 15 with (first
    | (go_at_call 31; refine (sum_at HB7.out HT7.out HY1.out).mono ?_; rintro e w9 ⟨rfl, hm⟩; obtain ⟨V8, t8, f8⟩ := hm; have HT8 := Lib.hid t8; have HF8 := Lib.hid (HF7.out.trans f8); have HB8 : Hid (V8.bT = V.bT) := Lib.hid HF8.out.2.1; clear t8 f8))
  go_wp2_with (first
    | (go_at_call 31; refine (sum_at HB8.out HT8.out HY2.out).mono ?_; rintro e w10 ⟨rfl, hm⟩; obtain ⟨V9, t9, f9⟩ := hm; have HT9 := Lib.hid t9; have HF9 := Lib.hid (HF8.out.trans f9); clear t9 f9))
  go_end0
  have hr := HT9.out
  rw [← HTE.out] at hr
  exact ⟨rfl, TPost.of HF9.out hr⟩
set_option maxRecDepth 100000 in
set_option maxHeartbeats 16000000 in
theorem move_I_back {w : World} {V : TV} {T : TD} {b : Nat} (hb : V.bT = b) (h : TA w V T) {a c : Nat} (hs : SafeMove T a c true) (hl : (T.get a).kids ≠ []) :
    Calls Try.prog 60 #[.pointer (some ⟨b, 0, none⟩), .int .i64 (a : Int), .int .i64 (c : Int), .bool true] w fun e w' => e = .returned (.tuple #[]) ∧ TPost w V (T.move a c true) w' := by
  subst hb
  obtain ⟨fa, fc, hac, hsz, fm1, fm2⟩ := hs
  have HH := Lib.hid h
  have ha := fa.lt
  have hc := fc.lt
  obtain ⟨n, hn⟩ : ∃ n, (T.get a).kids.length = n := ⟨_, rfl⟩
  obtain ⟨nc0, hnc⟩ : ∃ n, (T.get c).kids.length = n := ⟨_, rfl⟩
  obtain ⟨nk, hnk⟩ : ∃ n, (T.get a).kids.length = n := ⟨_, rfl⟩
  obtain rfl : n = nk := hn.symm.trans hnk
  have hn0 : 0 < n := by rw [← hn]; exact List.length_pos_iff.2 hl
  have hn1 : n ≤ 100 := by rw [← hn]; exact fa.kids
  have hnc1 : nc0 ≤ 100 := by rw [← hnc]; exact fc.kids
  obtain ⟨m, hm⟩ : ∃ m, n = m + 1 := ⟨n - 1, by omega⟩
  have gm : IntKind.i64.wrap ((n : Int) - 1) = (m : Int) := by rw [show (n : Int) - 1 = (m : Int) by omega]; exact IntWalk.i64_in _ (by omega)
  have gmn : m < n := by omega
  have gk0 : ((n : Int) == 0) = false := by exact beq_eq_false_iff_ne.2 (by omega)
  obtain ⟨x, hx⟩ : ∃ x, (T.get a).kids.getD m 0 = x := ⟨_, rfl⟩
  have hmv : T.move a c true = (((T.put c { T.get c with kids := insL (T.get c).kids 0 x }).put a { T.get a with kids := (T.get a).kids.take m }).sum a).sum c := by
    unfold TD.move TD.moved
    rw [if_neg hl, if_pos rfl, hn, show n - 1 = m by omega, hx]
  have hmd : T.moved a c true = (T.put c { T.get c with kids := insL (T.get c).kids 0 x }).put a { T.get a with kids := (T.get a).kids.take m } := by
    unfold TD.moved
    rw [if_neg hl, if_pos rfl, hn, show n - 1 = m by omega, hx]
  rw [hmd] at fm1 fm2
  rw [hmv]
  have HF1 := Lib.hid fm1
  have HF2 := Lib.hid fm2
  have HNA := Lib.hid hn
  have HLC : Hid ((natsC (T.get c).kids).length = nc0) := Lib.hid (by rw [← hnc]; simp [strsC, natsC])
  have kT := h.blk
  unfold treeC TV.nv at kT
  have hcap := h.cap
  have hmax := h.max
  unfold maxLen at hmax
  have c0 := cell_of kT 0 (v := .slice (some ⟨V.gN, 0, none⟩) T.nodes.length V.cN) rfl
  obtain ⟨i0, hi, hz0, hz3, hz4⟩ := info_parts info_int1
  have HGX : Hid ((T.get a).kids[m]? = some x) := Lib.hid (by rw [← hx, List.getD_eq_getElem?_getD, List.getElem?_eq_getElem (by omega)]; rfl)
  have HNK := Lib.hid hnk
  clear hsz fa fc fm1 fm2 hn hnc hnk hl hx hmv hmd h kT hm
  go_enter Try.func60, Try.ntmps60
  go_upto_region 0 with fail
  first | (refine wq_region_from_still ?_) | (refine wq_region_from (by kernel_rfl) (by kernel_rfl) ?_)
  repeat
    first
      | ((refine WQ_skip (by rfl) ?_); (try simp only [Act.put, zzT, zzO, zzS]))
      | (apply WQ_val (by rfl); (focus (intro w' hC; (have e0 := From.cell hC c0); go_simp; (first | done | exact rfl | (rw [if_pos (by omega)]; done) | (exact str_idx (by omega))))); (try simp only [Act.put, zzT, zzO, zzS]))
      | (apply WQ_call (by rfl); (focus (intro w' hC; go_simp; (first | done | exact rfl | exact ⟨rfl, rfl⟩))); (focus (intro w' hC; first | fail)); (try simp only [Act.put, zzT, zzO, zzS]))
  refine WQ_nil ?_
  intro wq hq
  have H1 : Hid (TA wq V T) := Lib.hid (HH.out.upd (false_upd2 hq) (fun _ _ _ e => e))
  have HQ : Hid (Frm w V wq V) := Lib.hid (Frm.from_ V hq)
  clear hq c0
  obtain ⟨ava, avc, eva⟩ := (H1.out.kid a ha).form
  obtain ⟨cva, cvc, evc⟩ := (H1.out.kid c hc).form
  rw [show (natsC (T.get a).kids).length = n by rw [← HNA.out]; simp [strsC, natsC]] at eva
  rw [HLC.out] at evc
  have HRA : Hid (Row wq 3 (.slice ava n avc) (natsC (T.get a).kids)) := Lib.hid (eva ▸ H1.out.kid a ha)
  have HRC : Hid (Row wq 3 (.slice cva nc0 cvc) (natsC (T.get c).kids)) := Lib.hid (evc ▸ H1.out.kid c hc)
  have HVA := Lib.hid eva
  have HVC := Lib.hid evc
  have kN := H1.out.row
  have na : wq.cell? ⟨V.gN, a * 3 + 1, none⟩ = some (.slice ava n avc) := cell_of kN _ (by rw [← HVA.out]; exact (H1.out.cel a ha).2.1)
  have nc : wq.cell? ⟨V.gN, c * 3 + 1, none⟩ = some (.slice cva nc0 cvc) := cell_of kN _ (by rw [← HVC.out]; exact (H1.out.cel c hc).2.1)
  obtain ⟨ka, kc, ek⟩ := (H1.out.kid a ha).form
  rw [show (natsC (T.get a).kids).length = n by rw [← HNK.out]; simp [natsC]] at ek
  have nk1 : wq.cell? ⟨V.gN, a * 3 + 1, none⟩ = some (.slice ka n kc) := cell_of kN _ (by rw [← ek]; exact (H1.out.cel a ha).2.1)
  obtain ⟨g, hg⟩ := HRA.out.addr (by rw [natsC, List.length_map, HNA.out]; omega)
  subst hg
  have e1 : wq.cell? ⟨g, m, none⟩ = some (.int .i64 (x : Int)) := by
    have := HRA.out.cells0 m (.int .i64 (x : Int)) (by rw [natsC, List.getElem?_map, HGX.out]; rfl)
    rwa [Nat.zero_add] at this
  have hoN : ¬ V.own (.K c) = some V.gN := fun e => by have := H1.out.inj (.K c) .N V.gN e rfl; cases this
  have hog : ¬ V.own (.K c) = some g := fun e => by have := H1.out.inj (.K c) (.K a) g e (by show (V.kv a).ownBlock = _; rw [HVA.out]; rfl); injection this with this; exact hac this.symm
  have hcz : (natsC (T.get c).kids).length ≤ 100 := by rw [HLC.out]; exact hnc1
  have hcz2 : (T.get c).kids.length ≤ 100 := by have := HLC.out; simp [strsC, natsC] at this; omega
  have glc : n ≤ avc := HRA.out.len.2.1
  have hc3 : c * 3 + 3 ≤ V.C.size := node_cells H1.out hc
  clear eva evc ek
  go_upto_region 12 with (first
    | (go_at_call 44; refine (leaf_any V.gN (a * 3) _ _ _ nk1).mono ?_; rintro e w9 ⟨rfl, rfl⟩))
  refine wp_region_seq (fun v => Upd (fun b => V.own (.K c) = some b) wq v) (fun i => i != 16) [(0, true), (1, true), (2, true), (3, true), (4, true), (5, true), (6, true), (7, true), (8, true), (9, true), (10, true), (11, true), (12, false), (13, false), (14, true), (15, true), (16, false)] (by exact rfl) (by kernel_rfl) (by intro c a d v w h; cases d <;> exact h) ?_
  have hS : Upd (fun b => V.own (.K c) = some b) wq wq.drew := (Upd.refl _ wq).drew
  iterate 12 (((apply seq_val2 rfl (by rfl); (focus (intro w' hS'; have s0 := hS'.cell nc hoN; have s1 := hS'.cell na hoN; have s2 := hS'.cell e1 hog; go_simp; (first | done | exact rfl | (rw [if_pos (by omega)]; done)))); (focus exact hS))); (try simp only [Act.put, zzT, zzO, zzS]))
  refine seq_loud2 rfl (fun K hK => ?_)
  go_simp; obtain ⟨w2, hw2, k2, hS2, hz2, hS0⟩ : ∃ w2, (wq.alloc (.cells #[(.int .i64 (x : Int))] 3)).drew = w2 ∧ w2.heap[wq.heap.size]? = some (.cells #[(.int .i64 (x : Int))] 3 (0, 0)) ∧ Upd (fun b => V.own (.K c) = some b) wq w2 ∧ w2.heap.size = wq.heap.size + 1 ∧ Hid (Upd (fun _ => False) wq w2) := ⟨_, rfl, heap_alloc_new wq _, ((Upd.refl _ wq).alloc _).drew, by simp, Lib.hid ((Upd.refl _ wq).alloc _).drew⟩; rw [hw2]; clear hS; have hS := hS2; clear hS2 hw2; have HZ2 := Lib.hid hz2; clear hz2; refine hK _ _ (fun _ => hS) ?_; clear hK K
  (try simp only [Act.put, zzT, zzO, zzS])
  apply seq_call2 (fun v w' => Row w' 3 v (insL (natsC (T.get c).kids) 0 (.int .i64 (x : Int))) ∧ Upd (fun b => V.own (.K c) = some b) wq w' ∧ Near wq (V.kv c) v) rfl (by rfl)
  focus (go_simp; (first | done | exact rfl | exact ⟨rfl, rfl⟩))
  focus (refine (insI_any (HRC.out.upd hS0.out (fun _ _ h => h)) (natsC_ones _) 0 (Nat.zero_le _) (.int .i64 (x : Int)) rfl wq.heap.size k2 (fun e => by have := HRC.out.lt e; omega) (by simp [strsC, natsC]; omega)).mono ?_; rintro e w' ⟨v', rfl, hr, hu, hn⟩; exact ⟨v', rfl, hr, hS.then hu (fun b _ e => by show (V.kv c).ownBlock = _; rw [HVC.out]; exact e), fun b hb => (hn b hb).imp (fun e => by rw [HVC.out]; exact e) (fun e => by have := HZ2.out; omega)⟩)
  rintro v3 w3 ⟨hr3, hS3, hn3⟩; clear hS; have hS := hS3; clear hS3; obtain ⟨a3, c3, e3⟩ := hr3.form; rw [insL_lens] at e3; subst e3; have s33 := hS.cell nc hoN; have f33 := free_of (hS.heap kN hoN) (c * 3 + 1); refine ⟨fun _ => hS, ?_⟩
  (try simp only [Act.put, zzT, zzO, zzS])
  iterate 2 (((apply seq_val2 rfl (by rfl); (focus (intro w' hS'; have s0 := hS'.cell nc hoN; have s1 := hS'.cell na hoN; have s2 := hS'.cell e1 hog; go_simp; (first | done | exact rfl | (rw [if_pos (by omega)]; done)))); (focus exact hS))); (try simp only [Act.put, zzT, zzO, zzS]))
  refine seq_loud2 rfl (fun K hK => ?_)
  go_simp; refine hK _ _ (fun e => by cases e) ?_; clear hK K
  (try simp only [Act.put, zzT, zzO, zzS])
  refine seq_nil ?_
  obtain ⟨hU5, hb5⟩ := cell_setc (i := c * 3 + 1) hS kN hoN (.slice a3 ((natsC (T.get c).kids).length + 1) c3)
  obtain ⟨w5, hw5⟩ : ∃ w5, w3.setCell ⟨V.gN, c * 3 + 1, none⟩ (.slice a3 ((natsC (T.get c).kids).length + 1) c3) = w5 := ⟨_, rfl⟩
  rw [hw5] at hU5 hb5 ⊢
  obtain ⟨V5, t5, f5, g5, _⟩ := H1.out.kput hc (insL (T.get c).kids 0 x) hS (by rw [show natsC (insL (T.get c).kids 0 x) = insL (natsC (T.get c).kids) 0 (.int .i64 (x : Int)) from insL_map _ _ _ _]; exact hr3) hn3 hU5 hb5
  obtain ⟨T5, hT5⟩ : ∃ T5, T.put c { T.get c with kids := insL (T.get c).kids 0 x } = T5 := ⟨_, rfl⟩
  have ha5 : a < T5.nodes.length := by rw [← hT5, put_len]; exact ha
  have hga : T5.get a = T.get a := by rw [← hT5, get_put T _ hc, if_neg hac]
  rw [hT5] at t5
  have HT5 := Lib.hid t5
  have HF5 : Hid (Frm w V w5 V5) := Lib.hid (HQ.out.trans f5)
  have HTE := Lib.hid hT5
  have HGA := Lib.hid hga
  have HG5 := Lib.hid g5
  obtain ⟨xa, xc, ex⟩ := (t5.kid a ha5).form
  rw [hga, show (natsC (T.get a).kids).length = n by rw [← HNA.out]; simp [strsC, natsC]] at ex
  have HVA5 := Lib.hid ex
  have HRA5 : Hid (Row w5 3 (.slice xa n xc) (natsC (T.get a).kids)) := Lib.hid (by have := t5.kid a ha5; rw [ex, hga] at this; exact this)
  have kN5 : w5.heap[V.gN]? = some (.cells V5.C 61 (0, 0)) := by rw [← g5]; exact t5.row
  have na5 : w5.cell? ⟨V.gN, a * 3 + 1, none⟩ = some (.slice xa n xc) := cell_of kN5 _ (by rw [← ex]; exact (t5.cel a ha5).2.1)
  have ha3 : a * 3 + 3 ≤ V5.C.size := node_cells t5 ha5
  have glc5 : n ≤ xc := HRA5.out.len.2.1
  have gmx : m ≤ xc := by omega
  have gxm : xc ≤ 9223372036854775807 := by have := HRA5.out.len.2.2; unfold maxLen at this; omega
  have hoa : ¬ (Value.slice xa n xc).ownBlock = some V.gN := fun e => by have := HT5.out.inj (.K a) .N V.gN (by show (V5.kv a).ownBlock = _; rw [HVA5.out]; exact e) (by rw [← HG5.out]; rfl); cases this
  have hla : 0 < (T.get a).kids.length := by rw [HNA.out]; omega
  clear t5 f5 g5 hT5 hga ex hU5 hb5 hw5 hr3 hn3 hS s33 f33 na nc nk1 e1 kN k2
  go_upto_region 14 with (first
    | ((with_reducible refine stopSt 42 _ _ rfl ?_); unfold Stop; refine wpList_store_blk rfl 42 _ _ rfl V.gN (a * 3 + 1) rfl (.slice xa m xc) rfl V5.C (V5.C.setIfInBounds (a * 3 + 1) (.slice xa m xc)) _ kN5 (by show a * 3 + 1 + 1 ≤ _; omega) (by kernel_rfl) rfl rfl ?_; intro w6 k6 hu6 hs6))
  obtain ⟨V7, t7, f7, g7, _⟩ := HT5.out.kput (w3 := w5) (w5 := w6) ha5 ((T.get a).kids.take m) (Upd.refl _ _) (by have := (HRA5.out.cut (m := m) (by omega)); simpa [strsC, natsC, List.map_take] using this) (fun b hb => .inl (by rw [HVA5.out]; obtain ⟨g5, hg5⟩ := HRA5.out.addr (by rw [natsC, List.length_map]; exact hla); rw [hg5] at hb ⊢; exact hb)) (by rw [HG5.out]; exact hu6) (by rw [HG5.out]; exact k6)
  rw [HGA.out] at t7
  have HT7 := Lib.hid t7
  have HF7 : Hid (Frm w V w6 V7) := Lib.hid (HF5.out.trans f7)
  have HB7 : Hid (V7.bT = V.bT) := Lib.hid HF7.out.2.1
  clear t7 f7 g7 hu6 k6 hs6 na5 kN5
  have HX1 := HF1.out
  have HX2 := HF2.out
  rw [HTE.out] at HX1 HX2
  have HY1 := Lib.hid HX1
  have HY2 := Lib.hid HX2
  clear HX1 HX2
  go_upto_region 15 with (first
    | (go_at_call 31; refine (sum_at HB7.out HT7.out HY1.out).mono ?_; rintro e w9 ⟨rfl, hm⟩; obtain ⟨V8, t8, f8⟩ := hm; have HT8 := Lib.hid t8; have HF8 := Lib.hid (HF7.out.trans f8); have HB8 : Hid (V8.bT = V.bT) := Lib.hid HF8.out.2.1; clear t8 f8))
  go_wp2_with (first
    | (go_at_call 31; refine (sum_at HB8.out HT8.out HY2.out).mono ?_; rintro e w10 ⟨rfl, hm⟩; obtain ⟨V9, t9, f9⟩ := hm; have HT9 := Lib.hid t9; have HF9 := Lib.hid (HF8.out.trans f9); clear t9 f9))
  go_end0
  have hr := HT9.out
  rw [← HTE.out] at hr
  exact ⟨rfl, TPost.of HF9.out hr⟩
set_option maxRecDepth 100000 in
set_option maxHeartbeats 16000000 in
theorem move_I_front {w : World} {V : TV} {T : TD} {b : Nat} (hb : V.bT = b) (h : TA w V T) {a c : Nat} (hs : SafeMove T a c false) (hl : (T.get a).kids ≠ []) :
    Calls Try.prog 60 #[.pointer (some ⟨b, 0, none⟩), .int .i64 (a : Int), .int .i64 (c : Int), .bool false] w fun e w' => e = .returned (.tuple #[]) ∧ TPost w V (T.move a c false) w' := by
  subst hb
  obtain ⟨fa, fc, hac, hsz, fm1, fm2⟩ := hs
  have HH := Lib.hid h
  have ha := fa.lt
  have hc := fc.lt
  obtain ⟨n, hn⟩ : ∃ n, (T.get a).kids.length = n := ⟨_, rfl⟩
  obtain ⟨nc0, hnc⟩ : ∃ n, (T.get c).kids.length = n := ⟨_, rfl⟩
  obtain ⟨nk, hnk⟩ : ∃ n, (T.get a).kids.length = n := ⟨_, rfl⟩
  obtain rfl : n = nk := hn.symm.trans hnk
  have hn0 : 0 < n := by rw [← hn]; exact List.length_pos_iff.2 hl
  have hn1 : n ≤ 100 := by rw [← hn]; exact fa.kids
  have hnc1 : nc0 ≤ 100 := by rw [← hnc]; exact fc.kids
  obtain ⟨m, hm⟩ : ∃ m, n = m + 1 := ⟨n - 1, by omega⟩
  have gm : IntKind.i64.wrap ((n : Int) - 1) = (m : Int) := by rw [show (n : Int) - 1 = (m : Int) by omega]; exact IntWalk.i64_in _ (by omega)
  have gmn : m < n := by omega
  have gk0 : ((n : Int) == 0) = false := by exact beq_eq_false_iff_ne.2 (by omega)
  obtain ⟨x, hx⟩ : ∃ x, (T.get a).kids.getD 0 0 = x := ⟨_, rfl⟩
  have hmv : T.move a c false = (((T.put c { T.get c with kids := (T.get c).kids ++ [x] }).put a { T.get a with kids := delL (T.get a).kids 0 }).sum a).sum c := by
    unfold TD.move TD.moved
    rw [if_neg hl, if_neg (by decide), hx]
  have hmd : T.moved a c false = (T.put c { T.get c with kids := (T.get c).kids ++ [x] }).put a { T.get a with kids := delL (T.get a).kids 0 } := by
    unfold TD.moved
    rw [if_neg hl, if_neg (by decide), hx]
  rw [hmd] at fm1 fm2
  rw [hmv]
  have HF1 := Lib.hid fm1
  have HF2 := Lib.hid fm2
  have HNA := Lib.hid hn
  have HLC : Hid ((natsC (T.get c).kids).length = nc0) := Lib.hid (by rw [← hnc]; simp [strsC, natsC])
  have kT := h.blk
  unfold treeC TV.nv at kT
  have hcap := h.cap
  have hmax := h.max
  unfold maxLen at hmax
  have c0 := cell_of kT 0 (v := .slice (some ⟨V.gN, 0, none⟩) T.nodes.length V.cN) rfl
  obtain ⟨i0, hi, hz0, hz3, hz4⟩ := info_parts info_int1
  have HGX : Hid ((T.get a).kids[0]? = some x) := Lib.hid (by rw [← hx, List.getD_eq_getElem?_getD, List.getElem?_eq_getElem (by omega)]; rfl)
  have HNK := Lib.hid hnk
  clear hsz fa fc fm1 fm2 hn hnc hnk hl hx hmv hmd h kT hm
  go_enter Try.func60, Try.ntmps60
  go_upto_region 0 with fail
  first | (refine wq_region_from_still ?_) | (refine wq_region_from (by kernel_rfl) (by kernel_rfl) ?_)
  repeat
    first
      | ((refine WQ_skip (by rfl) ?_); (try simp only [Act.put, zzT, zzO, zzS]))
      | (apply WQ_val (by rfl); (focus (intro w' hC; (have e0 := From.cell hC c0); go_simp; (first | done | exact rfl | (rw [if_pos (by omega)]; done) | (exact str_idx (by omega))))); (try simp only [Act.put, zzT, zzO, zzS]))
      | (apply WQ_call (by rfl); (focus (intro w' hC; go_simp; (first | done | exact rfl | exact ⟨rfl, rfl⟩))); (focus (intro w' hC; first | fail)); (try simp only [Act.put, zzT, zzO, zzS]))
  refine WQ_nil ?_
  intro wq hq
  have H1 : Hid (TA wq V T) := Lib.hid (HH.out.upd (false_upd2 hq) (fun _ _ _ e => e))
  have HQ : Hid (Frm w V wq V) := Lib.hid (Frm.from_ V hq)
  clear hq c0
  obtain ⟨ava, avc, eva⟩ := (H1.out.kid a ha).form
  obtain ⟨cva, cvc, evc⟩ := (H1.out.kid c hc).form
  rw [show (natsC (T.get a).kids).length = n by rw [← HNA.out]; simp [strsC, natsC]] at eva
  rw [HLC.out] at evc
  have HRA : Hid (Row wq 3 (.slice ava n avc) (natsC (T.get a).kids)) := Lib.hid (eva ▸ H1.out.kid a ha)
  have HRC : Hid (Row wq 3 (.slice cva nc0 cvc) (natsC (T.get c).kids)) := Lib.hid (evc ▸ H1.out.kid c hc)
  have HVA := Lib.hid eva
  have HVC := Lib.hid evc
  have kN := H1.out.row
  have na : wq.cell? ⟨V.gN, a * 3 + 1, none⟩ = some (.slice ava n avc) := cell_of kN _ (by rw [← HVA.out]; exact (H1.out.cel a ha).2.1)
  have nc : wq.cell? ⟨V.gN, c * 3 + 1, none⟩ = some (.slice cva nc0 cvc) := cell_of kN _ (by rw [← HVC.out]; exact (H1.out.cel c hc).2.1)
  obtain ⟨ka, kc, ek⟩ := (H1.out.kid a ha).form
  rw [show (natsC (T.get a).kids).length = n by rw [← HNK.out]; simp [natsC]] at ek
  have nk1 : wq.cell? ⟨V.gN, a * 3 + 1, none⟩ = some (.slice ka n kc) := cell_of kN _ (by rw [← ek]; exact (H1.out.cel a ha).2.1)
  obtain ⟨g, hg⟩ := HRA.out.addr (by rw [natsC, List.length_map, HNA.out]; omega)
  subst hg
  have e1 : wq.cell? ⟨g, 0, none⟩ = some (.int .i64 (x : Int)) := by
    have := HRA.out.cells0 0 (.int .i64 (x : Int)) (by rw [natsC, List.getElem?_map, HGX.out]; rfl)
    rwa [Nat.zero_add] at this
  have hoN : ¬ V.own (.K c) = some V.gN := fun e => by have := H1.out.inj (.K c) .N V.gN e rfl; cases this
  have hog : ¬ V.own (.K c) = some g := fun e => by have := H1.out.inj (.K c) (.K a) g e (by show (V.kv a).ownBlock = _; rw [HVA.out]; rfl); injection this with this; exact hac this.symm
  have hcz : (natsC (T.get c).kids).length ≤ 100 := by rw [HLC.out]; exact hnc1
  have hcz2 : (T.get c).kids.length ≤ 100 := by have := HLC.out; simp [strsC, natsC] at this; omega
  have glc : n ≤ avc := HRA.out.len.2.1
  have hc3 : c * 3 + 3 ≤ V.C.size := node_cells H1.out hc
  clear eva evc ek
  go_upto_region 1 with (first
    | (go_at_call 44; refine (leaf_any V.gN (a * 3) _ _ _ nk1).mono ?_; rintro e w9 ⟨rfl, rfl⟩))
  refine wp_region_seq (fun v => Upd (fun b => V.own (.K c) = some b) wq v) (fun i => i != 15) [(0, true), (1, true), (2, true), (3, true), (4, true), (5, true), (6, true), (7, true), (8, true), (9, true), (10, true), (11, false), (12, false), (13, true), (14, true), (15, false)] (by exact rfl) (by kernel_rfl) (by intro c a d v w h; cases d <;> exact h) ?_
  have hS : Upd (fun b => V.own (.K c) = some b) wq wq.drew := (Upd.refl _ wq).drew
  iterate 11 (((apply seq_val2 rfl (by rfl); (focus (intro w' hS'; have s0 := hS'.cell nc hoN; have s1 := hS'.cell na hoN; have s2 := hS'.cell e1 hog; go_simp; (first | done | exact rfl | (rw [if_pos (by omega)]; done)))); (focus exact hS))); (try simp only [Act.put, zzT, zzO, zzS]))
  refine seq_loud2 rfl (fun K hK => ?_)
  go_simp; obtain ⟨w2, hw2, k2, hS2, hz2, hS0⟩ : ∃ w2, (wq.alloc (.cells #[(.int .i64 (x : Int))] 3)).drew = w2 ∧ w2.heap[wq.heap.size]? = some (.cells #[(.int .i64 (x : Int))] 3 (0, 0)) ∧ Upd (fun b => V.own (.K c) = some b) wq w2 ∧ w2.heap.size = wq.heap.size + 1 ∧ Hid (Upd (fun _ => False) wq w2) := ⟨_, rfl, heap_alloc_new wq _, ((Upd.refl _ wq).alloc _).drew, by simp, Lib.hid ((Upd.refl _ wq).alloc _).drew⟩; rw [hw2]; clear hS; have hS := hS2; clear hS2 hw2; have HZ2 := Lib.hid hz2; clear hz2; refine hK _ _ (fun _ => hS) ?_; clear hK K
  (try simp only [Act.put, zzT, zzO, zzS])
  refine seq_loud2 rfl (fun K hK => ?_)
  rw [if_pos (by rfl)]; refine wp_append_rows _ _ _ 42 rfl 3 i0 _ 8 Try.underlying42 hi hz0 hz3 hz4 rfl (.slice cva nc0 cvc) rfl (natsC (T.get c).kids) (HRC.out.upd hS0.out (fun _ _ h => h)) (.slice (some ⟨wq.heap.size, 0, none⟩) 1 1) rfl [(.int .i64 (x : Int))] (row_lit k2) (fun u hu => by simp only [List.mem_cons, List.not_mem_nil, or_false] at hu; rw [hu]; rfl) (by rw [HLC.out]; unfold maxLen; show nc0 + 1 ≤ _; omega) (by rw [HLC.out]; show (nc0 + 1) * 8 ≤ _; omega) ?_; intro v3 w3 hr3 hu hn; have hS3 : Upd (fun b => V.own (.K c) = some b) wq w3 := hS.then hu (fun b _ e => by show (V.kv c).ownBlock = _; rw [HVC.out]; exact e); have hn3 : Near wq (V.kv c) v3 := fun b hb => (hn b hb).imp (fun e => by rw [HVC.out]; exact e) (fun e => by have := HZ2.out; omega); clear hS; have hS := hS3; clear hS3 hu hn; obtain ⟨a3, c3, e3⟩ := hr3.form; simp only [List.length_append, List.length_cons, List.length_nil, Nat.zero_add] at e3; subst e3; have s33 := hS.cell nc hoN; have f33 := free_of (hS.heap kN hoN) (c * 3 + 1); refine hK _ _ (fun _ => hS) ?_; clear hK K
  (try simp only [Act.put, zzT, zzO, zzS])
  iterate 2 (((apply seq_val2 rfl (by rfl); (focus (intro w' hS'; have s0 := hS'.cell nc hoN; have s1 := hS'.cell na hoN; have s2 := hS'.cell e1 hog; go_simp; (first | done | exact rfl | (rw [if_pos (by omega)]; done)))); (focus exact hS))); (try simp only [Act.put, zzT, zzO, zzS]))
  refine seq_loud2 rfl (fun K hK => ?_)
  go_simp; refine hK _ _ (fun e => by cases e) ?_; clear hK K
  (try simp only [Act.put, zzT, zzO, zzS])
  refine seq_nil ?_
  obtain ⟨hU5, hb5⟩ := cell_setc (i := c * 3 + 1) hS kN hoN (.slice a3 ((natsC (T.get c).kids).length + 1) c3)
  obtain ⟨w5, hw5⟩ : ∃ w5, w3.setCell ⟨V.gN, c * 3 + 1, none⟩ (.slice a3 ((natsC (T.get c).kids).length + 1) c3) = w5 := ⟨_, rfl⟩
  rw [hw5] at hU5 hb5 ⊢
  obtain ⟨V5, t5, f5, g5, _⟩ := H1.out.kput hc ((T.get c).kids ++ [x]) hS (by rw [show natsC ((T.get c).kids ++ [x]) = natsC (T.get c).kids ++ [(.int .i64 (x : Int))] by simp [strsC, natsC, natV]]; exact hr3) hn3 hU5 hb5
  obtain ⟨T5, hT5⟩ : ∃ T5, T.put c { T.get c with kids := (T.get c).kids ++ [x] } = T5 := ⟨_, rfl⟩
  have ha5 : a < T5.nodes.length := by rw [← hT5, put_len]; exact ha
  have hga : T5.get a = T.get a := by rw [← hT5, get_put T _ hc, if_neg hac]
  rw [hT5] at t5
  have HT5 := Lib.hid t5
  have HF5 : Hid (Frm w V w5 V5) := Lib.hid (HQ.out.trans f5)
  have HTE := Lib.hid hT5
  have HGA := Lib.hid hga
  have HG5 := Lib.hid g5
  obtain ⟨xa, xc, ex⟩ := (t5.kid a ha5).form
  rw [hga, show (natsC (T.get a).kids).length = n by rw [← HNA.out]; simp [strsC, natsC]] at ex
  have HVA5 := Lib.hid ex
  have HRA5 : Hid (Row w5 3 (.slice xa n xc) (natsC (T.get a).kids)) := Lib.hid (by have := t5.kid a ha5; rw [ex, hga] at this; exact this)
  have kN5 : w5.heap[V.gN]? = some (.cells V5.C 61 (0, 0)) := by rw [← g5]; exact t5.row
  have na5 : w5.cell? ⟨V.gN, a * 3 + 1, none⟩ = some (.slice xa n xc) := cell_of kN5 _ (by rw [← ex]; exact (t5.cel a ha5).2.1)
  have ha3 : a * 3 + 3 ≤ V5.C.size := node_cells t5 ha5
  have glc5 : n ≤ xc := HRA5.out.len.2.1
  have gmx : m ≤ xc := by omega
  have gxm : xc ≤ 9223372036854775807 := by have := HRA5.out.len.2.2; unfold maxLen at this; omega
  have hoa : ¬ (Value.slice xa n xc).ownBlock = some V.gN := fun e => by have := HT5.out.inj (.K a) .N V.gN (by show (V5.kv a).ownBlock = _; rw [HVA5.out]; exact e) (by rw [← HG5.out]; rfl); cases this
  have hla : 0 < (T.get a).kids.length := by rw [HNA.out]; omega
  clear t5 f5 g5 hT5 hga ex hU5 hb5 hw5 hr3 hn3 hS s33 f33 na nc nk1 e1 kN k2
  go_upto_region 14 with (first
    | (go_at_call 64; refine (delI_any HRA5.out 0 (by omega)).mono ?_; rintro e w8 ⟨v8, rfl, hr8, hu8, hn8⟩; obtain ⟨a8, n8, c8, e8⟩ : ∃ a n c, v8 = Value.slice a n c := (let ⟨a, c, e⟩ := hr8.form; ⟨a, _, c, e⟩); subst e8; have kN8 := hu8.heap kN5 hoa)
    | ((with_reducible refine stopSt 42 _ _ rfl ?_); unfold Stop; refine wpList_store_blk rfl 42 _ _ rfl V.gN (a * 3 + 1) rfl (.slice a8 n8 c8) rfl V5.C (V5.C.setIfInBounds (a * 3 + 1) (.slice a8 n8 c8)) _ kN8 (by show a * 3 + 1 + 1 ≤ _; omega) (by kernel_rfl) rfl rfl ?_; intro w6 k6 hu6 hs6))
  obtain ⟨V7, t7, f7, g7, _⟩ := HT5.out.kput (w3 := w8) (w5 := w6) ha5 (delL (T.get a).kids 0) (hu8.mono (fun b _ e => by show (V5.kv a).ownBlock = _; rw [HVA5.out]; exact e)) (hr8) (fun b hb => (hn8 b hb).imp (fun e => by rw [HVA5.out]; exact e) id) (by rw [HG5.out]; exact hu6) (by rw [HG5.out]; exact k6)
  rw [HGA.out] at t7
  have HT7 := Lib.hid t7
  have HF7 : Hid (Frm w V w6 V7) := Lib.hid (HF5.out.trans f7)
  have HB7 : Hid (V7.bT = V.bT) := Lib.hid HF7.out.2.1
  clear t7 f7 g7 hu6 k6 hs6 na5 kN5
  have HX1 := HF1.out
  have HX2 := HF2.out
  rw [HTE.out] at HX1 HX2
  have HY1 := Lib.hid HX1
  have HY2 := Lib.hid HX2
  clear HX1 HX2
  go_upto_region 15 with (first
    | (go_at_call 31; refine (sum_at HB7.out HT7.out HY1.out).mono ?_; rintro e w9 ⟨rfl, hm⟩; obtain ⟨V8, t8, f8⟩ := hm; have HT8 := Lib.hid t8; have HF8 := Lib.hid (HF7.out.trans f8); have HB8 : Hid (V8.bT = V.bT) := Lib.hid HF8.out.2.1; clear t8 f8))
  go_wp2_with (first
    | (go_at_call 31; refine (sum_at HB8.out HT8.out HY2.out).mono ?_; rintro e w10 ⟨rfl, hm⟩; obtain ⟨V9, t9, f9⟩ := hm; have HT9 := Lib.hid t9; have HF9 := Lib.hid (HF8.out.trans f9); clear t9 f9))
  go_end0
  have hr := HT9.out
  rw [← HTE.out] at hr
  exact ⟨rfl, TPost.of HF9.out hr⟩
theorem move_any {w : World} {V : TV} {T : TD} {b : Nat} (hb : V.bT = b) (h : TA w V T) {a c : Nat} (back : Bool) (hs : SafeMove T a c back) :
    Calls Try.prog 60 #[.pointer (some ⟨b, 0, none⟩), .int .i64 (a : Int), .int .i64 (c : Int), .bool back] w fun e w' => e = .returned (.tuple #[]) ∧ TPost w V (T.move a c back) w' := by
  by_cases hl : (T.get a).kids = [] <;> cases back
  · exact move_S_front hb h hs hl
  · exact move_S_back hb h hs hl
  · exact move_I_front hb h hs hl
  · exact move_I_back hb h hs hl
end Go.Proofs.Ytmklapbecdhnmaa
