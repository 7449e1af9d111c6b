/- Lemmas that the law's proof stands on, part 11: Twh, Twi. No condition. -/
import Derived.Test.YtmklapbecdhnmaaBaseA0
import Derived.Test.YtmklapbecdhnmaaBaseA10
set_option linter.all false
set_option linter.unusedVariables false
set_option linter.unusedSimpArgs false
namespace Go.Proofs.Ytmklapbecdhnmaa
open Go.RowKit
theorem find_at {w : World} {V : TV} {T : TD} {b : Nat} (hb : V.bT = b) (h : TA w V T) {k : Nat} (hf : T.fine k) (i : Nat) (hi : i ≤ 10000000) :
    Calls Try.prog 46 #[.pointer (some ⟨b, 0, none⟩), .int .i64 (k : Int), .int .i64 (i : Int)] w fun e w' => e = .returned (.tuple #[.int .i64 ((T.find (T.get k).kids 0 i).1 : Int), .int .i64 ((T.find (T.get k).kids 0 i).2 : Int)]) ∧ w = w' := by
  subst hb
  exact find_any h hf i hi
theorem fine_sum {t : TD} {k : Nat} (h : t.fine k) : (t.sum k).fine k := by
  have e : (t.sum k).get k = { t.get k with count := (t.get k).lines.length + t.counts (t.get k).kids } := get_of (put_self _ h.lt)
  have hl : (t.sum k).nodes.length = t.nodes.length := put_len t k _
  refine ⟨by rw [hl]; exact h.lt, by rw [e]; exact h.lines, by rw [e]; exact h.kids, fun j hj => ?_, ?_, fun j hj => by rw [hl]; exact h.fre j hj, by rw [load_sum]; exact h.load, fun hk => ?_⟩
  · rw [e] at hj
    rw [hl]
    exact h.each j hj
  · rw [e]
    have hc : (t.sum k).counts (t.get k).kids = t.counts (t.get k).kids := by
      unfold TD.counts
      congr 1
      apply List.map_congr_left
      intro j hj
      rw [get_same (sum_other t (fun e => (h.each j hj).2 e.symm))]
    show (t.get k).lines.length + (t.sum k).counts (t.get k).kids ≤ _
    rw [hc]
    exact h.counts
  · rw [e] at hk ⊢
    exact h.mix hk
def Later (w : World) (V : TV) (T' : TD) (w' : World) : Prop := ∃ V', TA w' V' T' ∧ Frm w V w' V'
theorem set_cells {C : Array Value} {i : Nat} {v : Value} {k : Nat} : ∀ j, j ≠ k → i = k * 3 ∨ i = k * 3 + 1 → (C.setIfInBounds i v)[j * 3]? = C[j * 3]? ∧ (C.setIfInBounds i v)[j * 3 + 1]? = C[j * 3 + 1]? ∧ (C.setIfInBounds i v)[j * 3 + 2]? = C[j * 3 + 2]? := fun j hj hi => by
  refine ⟨?_, ?_, ?_⟩ <;> rw [Array.getElem?_setIfInBounds_ne (by omega)]
set_option maxRecDepth 100000 in
set_option maxHeartbeats 16000000 in
theorem insert_leaf (line : ByteArray) {w : World} {V : TV} {T : TD} {b : Nat} (hb : V.bT = b) (h : TA w V T) (k i : Nat) (hf : T.fine k) (hi : i ≤ (T.get k).lines.length) (hl : (T.get k).kids = []) (hse : SafeEnd (T.put k { T.get k with lines := insL (T.get k).lines i line }) k) :
    Calls Try.prog 29 #[.pointer (some ⟨b, 0, none⟩), .int .i64 (k : Int), .int .i64 (i : Int), .string line] w fun e w' => e = .returned (.int .i64 (optI (((T.put k { T.get k with lines := insL (T.get k).lines i line }).sum k).split k).1)) ∧ TPost w V (((T.put k { T.get k with lines := insL (T.get k).lines i line }).sum k).split k).2 w' := by
  subst hb
  have HH := Lib.hid h
  have hk := hf.lt
  obtain ⟨la, lc, el⟩ := (h.lin k hk).form
  obtain ⟨ka, kc, ek⟩ := (h.kid k hk).form
  have hll : (strsC (T.get k).lines).length = (T.get k).lines.length := by simp [strsC]
  have hkl : (natsC (T.get k).kids).length = (T.get k).kids.length := by simp [natsC]
  have hk0 : (T.get k).kids.length = 0 := by rw [hl]; rfl
  rw [hll] at el
  rw [hkl, hk0] at ek
  have hlsz : (T.get k).lines.length ≤ 100 := hf.lines
  obtain ⟨x0, x1, x2⟩ := h.cel k hk
  rw [el] at x0
  rw [ek] at x1
  obtain ⟨n, hn⟩ : ∃ n, (T.get k).lines.length = n := ⟨_, rfl⟩
  rw [hn] at el hi hlsz x0 hll
  have HLR : Hid (Row w 9 (.slice la n lc) (strsC (T.get k).lines)) := Lib.hid (el ▸ h.lin k hk)
  have HVE := Lib.hid el
  have HLL := Lib.hid hll
  have kN := h.row
  have hcap := h.cap
  have hmax := h.max
  unfold maxLen at hmax
  have kT := h.blk
  unfold treeC TV.nv at kT
  have c0 := cell_of kT 0 (v := .slice (some ⟨V.gN, 0, none⟩) T.nodes.length V.cN) rfl
  have n0 := cell_of kN _ x0
  have n1 := cell_of kN _ x1
  have hoT : ¬ V.own (.L k) = some V.bT := fun e => by have := h.inj (.L k) .T V.bT e rfl; cases this
  have hoN : ¬ V.own (.L k) = some V.gN := fun e => by have := h.inj (.L k) .N V.gN e rfl; cases this
  have HSE := Lib.hid hse
  have HKE := Lib.hid ek
  have HX := Lib.hid (And.intro x1 x2)
  have hk3 : k * 3 + 3 ≤ V.C.size := node_cells h hk
  have g0 : (((0 : Nat) : Int) == 0) = true := rfl
  clear el ek hll hkl x0 x1 x2 h hf hse hk0 hn kT
  obtain ⟨T5, hT5⟩ : ∃ T5, T.put k { T.get k with lines := insL (T.get k).lines i line } = T5 := ⟨_, rfl⟩
  rw [hT5] at HSE ⊢
  have HTE := Lib.hid hT5
  clear hT5
  go_enter Try.func29, Try.ntmps29
  go_upto_region 2 with (first
    | (go_at_call 44; refine (leaf_any V.gN (k * 3) ka 0 kc n1).mono ?_; rintro e w9 ⟨rfl, rfl⟩))
  have hcsl : n ≤ 100 := hlsz
  have hics : i ≤ (strsC (T.get k).lines).length := by rw [HLL.out]; exact hi
  have hlcs : (T.get k).lines.length ≤ 100 := by have := HLL.out; simp [strsC] at this; omega
  refine wp_region_seq (fun v => Upd (fun b => V.own (.L k) = some b) w v) (fun i => i != 19) [(0, true), (1, true), (2, true), (3, true), (4, true), (5, true), (6, true), (7, true), (8, true), (9, true), (10, true), (11, true), (12, true), (13, true), (14, true), (15, false), (16, false), (17, true), (18, true), (19, false)] (by exact rfl) (by kernel_rfl) (by intro c a d v w h; cases d <;> exact h) ?_
  have hS : Upd (fun b => V.own (.L k) = some b) w w.drew := (Upd.refl _ w).drew
  iterate 15 (((apply seq_val2 rfl (by rfl); (focus (intro w' hS'; have s0 := hS'.cell c0 hoT; have s1 := hS'.cell n0 hoN; go_simp; (first | done | exact rfl | (rw [if_pos (by omega)]; done)))); (focus exact hS))); (try simp only [Act.put, zzT, zzO, zzS]))
  refine seq_loud2 rfl (fun K hK => ?_)
  go_simp; obtain ⟨w2, hw2, k2, hS2, hz2, hS0⟩ : ∃ w2, (w.alloc (.cells #[(.string line)] 9)).drew = w2 ∧ w2.heap[w.heap.size]? = some (.cells #[(.string line)] 9 (0, 0)) ∧ Upd (fun b => V.own (.L k) = some b) w w2 ∧ w2.heap.size = w.heap.size + 1 ∧ Hid (Upd (fun _ => False) w w2) := ⟨_, rfl, heap_alloc_new w _, ((Upd.refl _ w).alloc _).drew, by simp, Lib.hid ((Upd.refl _ w).alloc _).drew⟩; rw [hw2]; clear hS; have hS := hS2; clear hS2 hw2; have HZ2 := Lib.hid hz2; clear hz2; refine hK _ _ (fun _ => hS) ?_; clear hK K
  (try simp only [Act.put, zzT, zzO, zzS])
  apply seq_call2 (fun v w' => Row w' 9 v (insL (strsC (T.get k).lines) i (.string line)) ∧ Upd (fun b => V.own (.L k) = some b) w w' ∧ Near w (V.lv k) v) rfl (by rfl)
  focus (go_simp; (first | done | exact rfl | exact ⟨rfl, rfl⟩))
  focus (refine (insS_any (HLR.out.upd hS0.out (fun _ _ h => h)) (strsC_ones _) i (by omega) (.string line) rfl w.heap.size k2 (fun e => by have := HLR.out.lt e; omega) (by simp [strsC, natsC]; omega)).mono ?_; rintro e w' ⟨v', rfl, hr, hu, hn⟩; exact ⟨v', rfl, hr, hS.then hu (fun b _ e => by show (V.lv k).ownBlock = _; rw [HVE.out]; exact e), fun b hb => (hn b hb).imp (fun e => by rw [HVE.out]; exact e) (fun e => by have := HZ2.out; omega)⟩)
  rintro v3 w3 ⟨hr3, hS3, hn3⟩; clear hS; have hS := hS3; clear hS3; obtain ⟨a3, c3, e3⟩ := hr3.form; rw [insL_lens] at e3; subst e3; have s33 := hS.cell n0 hoN; have f33 := free_of (hS.heap kN hoN) (k * 3); refine ⟨fun _ => hS, ?_⟩
  (try simp only [Act.put, zzT, zzO, zzS])
  iterate 2 (((apply seq_val2 rfl (by rfl); (focus (intro w' hS'; have s0 := hS'.cell c0 hoT; have s1 := hS'.cell n0 hoN; go_simp; (first | done | exact rfl | (rw [if_pos (by omega)]; done)))); (focus exact hS))); (try simp only [Act.put, zzT, zzO, zzS]))
  refine seq_loud2 rfl (fun K hK => ?_)
  go_simp; refine hK _ _ (fun e => by cases e) ?_; clear hK K
  (try simp only [Act.put, zzT, zzO, zzS])
  refine seq_nil ?_
  have hb4 := heap_set (hS.heap kN hoN) (k * 3) (.slice a3 ((strsC (T.get k).lines).length + 1) c3)
  have hU5 := (hS.mono (G := fun b => b = V.gN ∨ V.own (.L k) = some b ∨ V.own (.K k) = some b) (fun b _ e => .inr (.inl e))).setCell (p := ⟨V.gN, k * 3, none⟩) (fun _ => .inl rfl) (.slice a3 ((strsC (T.get k).lines).length + 1) c3)
  have hUL := (hS.mono (G := fun b => b = V.gN ∨ V.own (.L k) = some b) (fun b _ e => .inr e)).setCell (p := ⟨V.gN, k * 3, none⟩) (fun _ => .inl rfl) (.slice a3 ((strsC (T.get k).lines).length + 1) c3)
  have hU3 := (Upd.refl (fun b => b = V.gN) w3).setCell (p := ⟨V.gN, k * 3, none⟩) (fun _ => rfl) (.slice a3 ((strsC (T.get k).lines).length + 1) c3)
  obtain ⟨w5, hw5⟩ : ∃ w5, w3.setCell ⟨V.gN, k * 3, none⟩ (.slice a3 ((strsC (T.get k).lines).length + 1) c3) = w5 := ⟨_, rfl⟩
  rw [hw5] at hb4 hU5 hUL hU3 ⊢
  have r5 : Row w5 9 (.slice a3 ((strsC (T.get k).lines).length + 1) c3) (strsC (insL (T.get k).lines i line)) := by
    have := hr3.upd hU3 (fun b hb e => by
      rcases hn3 b hb with g | g
      · exact hoN (by rw [← e]; exact g)
      · have := heap_lt kN; omega)
    rw [show strsC (insL (T.get k).lines i line) = insL (strsC (T.get k).lines) i (.string line) from insL_map _ _ _ _]
    exact this
  have rk5 : Row w5 3 (.slice ka 0 kc) (natsC (T.get k).kids) := by
    have h0 := HH.out.kid k hk
    rw [HKE.out] at h0
    exact h0.upd hUL (fun b hb e => by
      have hbk : V.own (.K k) = some b := by show (V.kv k).ownBlock = _; rw [HKE.out]; exact hb
      rcases e with e | e
      · have := HH.out.inj (.K k) .N b hbk (by rw [e]; rfl); cases this
      · have := HH.out.inj (.K k) (.L k) b hbk e; cases this)
  obtain ⟨t5, u5, g5⟩ := HH.out.turn (w' := w5) hk { T.get k with lines := insL (T.get k).lines i line } (l' := .slice a3 ((strsC (T.get k).lines).length + 1) c3) (k' := .slice ka 0 kc) hU5 hb4 (by simp) (fun j hj => set_cells j hj (.inl rfl))
    (by rw [Array.getElem?_setIfInBounds_self_of_lt (by omega)]) (by rw [Array.getElem?_setIfInBounds_ne (by omega)]; exact HX.out.1) (by rw [Array.getElem?_setIfInBounds_ne (by omega)]; exact HX.out.2) r5 rk5
    hn3 (fun b hb => .inl (by show (V.kv k).ownBlock = _; rw [HKE.out]; exact hb)) (fun b h1 h2 => by
      have hbk : V.own (.K k) = some b := by show (V.kv k).ownBlock = _; rw [HKE.out]; exact h2
      rcases hn3 b h1 with g | g
      · have := HH.out.inj (.L k) (.K k) b g hbk; cases this
      · have := HH.out.lt hbk; omega)
  obtain ⟨V5, hV5⟩ : ∃ V5, V.set k (V.C.setIfInBounds (k * 3) (.slice a3 ((strsC (T.get k).lines).length + 1) c3)) (.slice a3 ((strsC (T.get k).lines).length + 1) c3) (.slice ka 0 kc) = V5 := ⟨_, rfl⟩
  rw [hV5] at t5 g5
  rw [HTE.out] at t5
  have HT5 := Lib.hid t5
  have HF5 : Hid (Frm w V w5 V5) := Lib.hid ⟨u5, g5⟩
  have HB5 : Hid (V5.bT = V.bT) := Lib.hid g5.1
  clear t5 u5 g5 hV5 r5 rk5 hU5 hUL hU3 hb4 hw5 hr3 hn3 hS s33 f33 c0 n0 n1 kN k2
  go_wp2_with (first
    | (go_at_call 31; refine (sum_at HB5.out HT5.out HSE.out.1).mono ?_; rintro e w6 ⟨rfl, hm⟩; obtain ⟨V6, t6, f6⟩ := hm; have HT6 := Lib.hid t6; have HF6 := Lib.hid (HF5.out.trans f6); have HB6 : Hid (V6.bT = V.bT) := Lib.hid HF6.out.2.1; clear t6 f6)
    | (go_at_call 48; refine (split_any HB6.out HT6.out (fine_sum HSE.out.1) HSE.out.2).mono ?_; rintro e w7 ⟨rfl, hm⟩; have HM7 := Lib.hid hm; clear hm))
  go_ret
  exact ⟨rfl, TPost.then HF6.out.1 HF6.out.2 HM7.out⟩
end Go.Proofs.Ytmklapbecdhnmaa
namespace Go.Proofs.Ytmklapbecdhnmaa
open Go.RowKit
set_option maxRecDepth 100000 in
set_option maxHeartbeats 16000000 in
theorem insert_node_some (line : ByteArray) {w : World} {V : TV} {T : TD} {b : Nat} (hb : V.bT = b) (h : TA w V T) (k i n r c : Nat) (hf : T.fine k) (hi : i ≤ 10000000) (hkk : (T.get k).kids ≠ []) (hfind : T.find (T.get k).kids 0 i = (n, r)) (hn : n < (T.get k).kids.length) (hc : (T.get k).kids.getD n 0 = c) (j : Nat) (s : TD)
    (IH : Calls Try.prog 29 #[.pointer (some ⟨V.bT, 0, none⟩), .int .i64 (c : Int), .int .i64 (r : Int), .string line] w fun e w' => e = .returned (.int .i64 ((j : Int))) ∧ TPost w V s w') (hs : s.fine k) (hsl : (s.get k).kids.length = (T.get k).kids.length) (hse : SafeEnd (s.hang k n (some j)) k) :
    Calls Try.prog 29 #[.pointer (some ⟨b, 0, none⟩), .int .i64 (k : Int), .int .i64 (i : Int), .string line] w fun e w' => e = .returned (.int .i64 (optI (((s.hang k n (some j)).sum k).split k).1)) ∧ TPost w V (((s.hang k n (some j)).sum k).split k).2 w' := by
  subst hb
  have HH := Lib.hid h
  have hk := hf.lt
  have hks : (T.get k).kids.length ≤ 100 := hf.kids
  obtain ⟨ka, kc, ek⟩ := (h.kid k hk).form
  have hkl : (natsC (T.get k).kids).length = (T.get k).kids.length := by simp [natsC]
  rw [hkl] at ek
  have HKR0 : Hid (Row w 3 (.slice ka (T.get k).kids.length kc) (natsC (T.get k).kids)) := Lib.hid (ek ▸ h.kid k hk)
  have x1 := (h.cel k hk).2.1
  rw [ek] at x1
  have n1 := cell_of h.row _ x1
  have hcap := h.cap
  have hmax := h.max
  unfold maxLen at hmax
  have kT := h.blk
  unfold treeC TV.nv at kT
  have c0 := cell_of kT 0 (v := .slice (some ⟨V.gN, 0, none⟩) T.nodes.length V.cN) rfl
  have HF := Lib.hid hf
  have HS := Lib.hid hs
  have HSL := Lib.hid hsl
  have g0 : (((T.get k).kids.length : Int) == 0) = false := beq_eq_false_iff_ne.2 (by omega)
  obtain ⟨g, hg⟩ := HKR0.out.addr (by simp [natsC]; omega)
  have e1 : w.cell? ⟨g, n, none⟩ = some (.int .i64 (c : Int)) := by
    have hR := HKR0.out
    rw [hg] at hR
    have := hR.cells0 n (natV c) (by rw [natsC, List.getElem?_map, List.getElem?_eq_getElem hn, ← hc, List.getD_eq_getElem?_getD, List.getElem?_eq_getElem hn]; rfl)
    rwa [Nat.zero_add] at this
  subst hg
  obtain ⟨T5, hT5⟩ : ∃ T5, s.hang k n (some j) = T5 := ⟨_, rfl⟩
  rw [hT5] at hse ⊢
  have HSE := Lib.hid hse
  have HTE := Lib.hid hT5
  have HFI := Lib.hid hfind
  have gj : ((j : Int) == -1) = false := beq_eq_false_iff_ne.2 (by omega)
  have gn : IntKind.i64.wrap ((n : Int) + 1) = (n : Int) + 1 := IntWalk.i64_in _ (by omega)
  clear ek hkl x1 h hf kT hs hsl hse hT5 hfind hc hkk
  go_enter Try.func29, Try.ntmps29
  go_upto_region 6 with (first
    | (go_at_call 44; refine (leaf_any V.gN (k * 3) _ _ _ n1).mono ?_; rintro e w9 ⟨rfl, rfl⟩)
    | (go_at_call 46; refine (find_at rfl HH.out HF.out i hi).mono ?_; rintro e w9 ⟨rfl, rfl⟩; rw [HFI.out])
    | (go_at_call 29; refine IH.mono ?_; rintro e w1 ⟨rfl, hm⟩; have HM := Lib.hid hm; clear hm))
  obtain ⟨V1, t1, u1, gr1⟩ := HM.out
  have H1 := Lib.hid t1
  have HB1 := Lib.hid gr1.1
  have HF1 : Hid (Frm w V w1 V1) := Lib.hid ⟨u1, gr1⟩
  have hk1 := HS.out.lt
  obtain ⟨la1, lc1, el1⟩ := (t1.lin k hk1).form
  obtain ⟨ka1, kc1, ek1⟩ := (t1.kid k hk1).form
  have hkl1 : (natsC (s.get k).kids).length = (T.get k).kids.length := by simp [natsC, HSL.out]
  have hll1 : (strsC (s.get k).lines).length = (s.get k).lines.length := by simp [strsC]
  rw [hkl1] at ek1
  rw [hll1] at el1
  have HKR : Hid (Row w1 3 (.slice ka1 (T.get k).kids.length kc1) (natsC (s.get k).kids)) := Lib.hid (ek1 ▸ t1.kid k hk1)
  have HVE := Lib.hid ek1
  have HLE := Lib.hid el1
  have HLL := Lib.hid hkl1
  obtain ⟨x0, x1, x2⟩ := t1.cel k hk1
  rw [ek1] at x1
  rw [el1] at x0
  have kN := t1.row
  have hcap1 := t1.cap
  have hmax1 := t1.max
  unfold maxLen at hmax1
  have kT := t1.blk
  unfold treeC TV.nv at kT
  have m0 := cell_of kT 0 (v := .slice (some ⟨V1.gN, 0, none⟩) s.nodes.length V1.cN) rfl
  rw [HB1.out] at m0
  have m1 := cell_of kN _ x1
  have hoT : ¬ V1.own (.K k) = some V.bT := fun e => by have := t1.inj (.K k) .T V.bT e (by rw [← HB1.out]; rfl); cases this
  have hoN : ¬ V1.own (.K k) = some V1.gN := fun e => by have := t1.inj (.K k) .N V1.gN e rfl; cases this
  have HX := Lib.hid (And.intro x0 x2)
  have hk3 : k * 3 + 3 ≤ V1.C.size := node_cells t1 hk1
  have hics : n + 1 ≤ (natsC (s.get k).kids).length := by rw [HLL.out]; omega
  have hlcs : (s.get k).kids.length ≤ 100 := by rw [HSL.out]; exact hks
  clear t1 u1 gr1 HM el1 ek1 hkl1 hll1 x0 x1 x2 kT c0 n1 e1
  refine wp_region_seq (fun v => Upd (fun b => V1.own (.K k) = some b) w1 v) (fun i => i != 20) [(0, true), (1, true), (2, true), (3, true), (4, true), (5, true), (6, true), (7, true), (8, true), (9, true), (10, true), (11, true), (12, true), (13, true), (14, true), (15, true), (16, false), (17, false), (18, true), (19, true), (20, false)] (by exact rfl) (by kernel_rfl) (by intro c a d v w h; cases d <;> exact h) ?_
  have hS : Upd (fun b => V1.own (.K k) = some b) w1 w1.drew := (Upd.refl _ w1).drew
  iterate 16 (((apply seq_val2 rfl (by rfl); (focus (intro w' hS'; have s0 := hS'.cell m0 hoT; have s1 := hS'.cell m1 hoN; go_simp; (first | done | exact rfl | (rw [if_pos (by omega)]; done)))); (focus exact hS))); (try simp only [Act.put, zzT, zzO, zzS]))
  refine seq_loud2 rfl (fun K hK => ?_)
  go_simp; obtain ⟨w2, hw2, k2, hS2, hz2, hS0⟩ : ∃ w2, (w1.alloc (.cells #[(.int .i64 (j : Int))] 3)).drew = w2 ∧ w2.heap[w1.heap.size]? = some (.cells #[(.int .i64 (j : Int))] 3 (0, 0)) ∧ Upd (fun b => V1.own (.K k) = some b) w1 w2 ∧ w2.heap.size = w1.heap.size + 1 ∧ Hid (Upd (fun _ => False) w1 w2) := ⟨_, rfl, heap_alloc_new w1 _, ((Upd.refl _ w1).alloc _).drew, by simp, Lib.hid ((Upd.refl _ w1).alloc _).drew⟩; rw [hw2]; clear hS; have hS := hS2; clear hS2 hw2; have HZ2 := Lib.hid hz2; clear hz2; refine hK _ _ (fun _ => hS) ?_; clear hK K
  (try simp only [Act.put, zzT, zzO, zzS])
  apply seq_call2 (fun v w' => Row w' 3 v (insL (natsC (s.get k).kids) (n + 1) (.int .i64 (j : Int))) ∧ Upd (fun b => V1.own (.K k) = some b) w1 w' ∧ Near w1 (V1.kv k) v) rfl (by rfl)
  focus (go_simp; (first | done | exact rfl | exact ⟨rfl, rfl⟩))
  focus (refine (insI_any (HKR.out.upd hS0.out (fun _ _ h => h)) (natsC_ones _) (n + 1) (by omega) (.int .i64 (j : Int)) rfl w1.heap.size k2 (fun e => by have := HKR.out.lt e; omega) (by simp [strsC, natsC]; omega)).mono ?_; rintro e w' ⟨v', rfl, hr, hu, hn⟩; exact ⟨v', rfl, hr, hS.then hu (fun b _ e => by show (V1.kv k).ownBlock = _; rw [HVE.out]; exact e), fun b hb => (hn b hb).imp (fun e => by rw [HVE.out]; exact e) (fun e => by have := HZ2.out; omega)⟩)
  rintro v3 w3 ⟨hr3, hS3, hn3⟩; clear hS; have hS := hS3; clear hS3; obtain ⟨a3, c3, e3⟩ := hr3.form; rw [insL_lens] at e3; subst e3; have s33 := hS.cell m1 hoN; have f33 := free_of (hS.heap kN hoN) (k * 3 + 1); refine ⟨fun _ => hS, ?_⟩
  (try simp only [Act.put, zzT, zzO, zzS])
  iterate 2 (((apply seq_val2 rfl (by rfl); (focus (intro w' hS'; have s0 := hS'.cell m0 hoT; have s1 := hS'.cell m1 hoN; go_simp; (first | done | exact rfl | (rw [if_pos (by omega)]; done)))); (focus exact hS))); (try simp only [Act.put, zzT, zzO, zzS]))
  refine seq_loud2 rfl (fun K hK => ?_)
  go_simp; refine hK _ _ (fun e => by cases e) ?_; clear hK K
  (try simp only [Act.put, zzT, zzO, zzS])
  refine seq_nil ?_
  have hb4 := heap_set (hS.heap kN hoN) (k * 3 + 1) (.slice a3 ((natsC (s.get k).kids).length + 1) c3)
  have hU5 := (hS.mono (G := fun b => b = V1.gN ∨ V1.own (.L k) = some b ∨ V1.own (.K k) = some b) (fun b _ e => .inr (.inr e))).setCell (p := ⟨V1.gN, k * 3 + 1, none⟩) (fun _ => .inl rfl) (.slice a3 ((natsC (s.get k).kids).length + 1) c3)
  have hUL := (hS.mono (G := fun b => b = V1.gN ∨ V1.own (.K k) = some b) (fun b _ e => .inr e)).setCell (p := ⟨V1.gN, k * 3 + 1, none⟩) (fun _ => .inl rfl) (.slice a3 ((natsC (s.get k).kids).length + 1) c3)
  have hU3 := (Upd.refl (fun b => b = V1.gN) w3).setCell (p := ⟨V1.gN, k * 3 + 1, none⟩) (fun _ => rfl) (.slice a3 ((natsC (s.get k).kids).length + 1) c3)
  obtain ⟨w5, hw5⟩ : ∃ w5, w3.setCell ⟨V1.gN, k * 3 + 1, none⟩ (.slice a3 ((natsC (s.get k).kids).length + 1) c3) = w5 := ⟨_, rfl⟩
  rw [hw5] at hb4 hU5 hUL hU3 ⊢
  have r5 : Row w5 3 (.slice a3 ((natsC (s.get k).kids).length + 1) c3) (natsC (insL (s.get k).kids (n + 1) j)) := by
    have := hr3.upd hU3 (fun b hb e => by
      rcases hn3 b hb with g | g
      · exact hoN (by rw [← e]; exact g)
      · have := heap_lt kN; omega)
    rw [show natsC (insL (s.get k).kids (n + 1) j) = insL (natsC (s.get k).kids) (n + 1) (natV j) from insL_map _ _ _ _]
    exact this
  have rl5 : Row w5 9 (.slice la1 (s.get k).lines.length lc1) (strsC (s.get k).lines) := by
    have h0 := H1.out.lin k hk1
    rw [HLE.out] at h0
    exact h0.upd hUL (fun b hb e => by
      have hbk : V1.own (.L k) = some b := by show (V1.lv k).ownBlock = _; rw [HLE.out]; exact hb
      rcases e with e | e
      · have := H1.out.inj (.L k) .N b hbk (by rw [e]; rfl); cases this
      · have := H1.out.inj (.L k) (.K k) b hbk e; cases this)
  obtain ⟨t5, u5, g5⟩ := H1.out.turn (w' := w5) hk1 { s.get k with kids := insL (s.get k).kids (n + 1) j } (l' := .slice la1 (s.get k).lines.length lc1) (k' := .slice a3 ((natsC (s.get k).kids).length + 1) c3) hU5 hb4 (by simp) (fun q hq => set_cells q hq (.inr rfl))
    (by rw [Array.getElem?_setIfInBounds_ne (by omega)]; exact HX.out.1) (by rw [Array.getElem?_setIfInBounds_self_of_lt (by omega)]) (by rw [Array.getElem?_setIfInBounds_ne (by omega)]; exact HX.out.2) rl5 r5
    (fun b hb => .inl (by show (V1.lv k).ownBlock = _; rw [HLE.out]; exact hb)) hn3 (fun b h1 h2 => by
      have hbk : V1.own (.L k) = some b := by show (V1.lv k).ownBlock = _; rw [HLE.out]; exact h1
      rcases hn3 b h2 with g | g
      · have := H1.out.inj (.L k) (.K k) b hbk g; cases this
      · have := H1.out.lt hbk; omega)
  obtain ⟨V5, hV5⟩ : ∃ V5, V1.set k (V1.C.setIfInBounds (k * 3 + 1) (.slice a3 ((natsC (s.get k).kids).length + 1) c3)) (.slice la1 (s.get k).lines.length lc1) (.slice a3 ((natsC (s.get k).kids).length + 1) c3) = V5 := ⟨_, rfl⟩
  rw [hV5] at t5 g5
  rw [show s.put k { s.get k with kids := insL (s.get k).kids (n + 1) j } = T5 from HTE.out] at t5
  have HT5 := Lib.hid t5
  have HF5 : Hid (Frm w V w5 V5) := Lib.hid (HF1.out.trans ⟨u5, g5⟩)
  have HB5 : Hid (V5.bT = V.bT) := Lib.hid HF5.out.2.1
  clear t5 u5 g5 hV5 r5 rl5 hU5 hUL hU3 hb4 hw5 hr3 hn3 hS s33 f33 m0 m1 kN k2
  go_wp2_with (first
    | (go_at_call 31; refine (sum_at HB5.out HT5.out HSE.out.1).mono ?_; rintro e w6 ⟨rfl, hm⟩; obtain ⟨V6, t6, f6⟩ := hm; have HT6 := Lib.hid t6; have HF6 := Lib.hid (HF5.out.trans f6); have HB6 : Hid (V6.bT = V.bT) := Lib.hid HF6.out.2.1; clear t6 f6)
    | (go_at_call 48; refine (split_any HB6.out HT6.out (fine_sum HSE.out.1) HSE.out.2).mono ?_; rintro e w7 ⟨rfl, hm⟩; have HM7 := Lib.hid hm; clear hm))
  go_ret
  exact ⟨rfl, TPost.then HF6.out.1 HF6.out.2 HM7.out⟩
set_option maxRecDepth 100000 in
set_option maxHeartbeats 16000000 in
theorem insert_node_none (line : ByteArray) {w : World} {V : TV} {T : TD} {b : Nat} (hb : V.bT = b) (h : TA w V T) (k i n r c : Nat) (hf : T.fine k) (hi : i ≤ 10000000) (hkk : (T.get k).kids ≠ []) (hfind : T.find (T.get k).kids 0 i = (n, r)) (hn : n < (T.get k).kids.length) (hc : (T.get k).kids.getD n 0 = c) (s : TD)
    (IH : Calls Try.prog 29 #[.pointer (some ⟨V.bT, 0, none⟩), .int .i64 (c : Int), .int .i64 (r : Int), .string line] w fun e w' => e = .returned (.int .i64 (-1)) ∧ TPost w V s w') (hs : s.fine k) (hsl : (s.get k).kids.length = (T.get k).kids.length) (hse : SafeEnd (s.hang k n none) k) :
    Calls Try.prog 29 #[.pointer (some ⟨b, 0, none⟩), .int .i64 (k : Int), .int .i64 (i : Int), .string line] w fun e w' => e = .returned (.int .i64 (optI (((s.hang k n none).sum k).split k).1)) ∧ TPost w V (((s.hang k n none).sum k).split k).2 w' := by
  subst hb
  have HH := Lib.hid h
  have hk := hf.lt
  have hks : (T.get k).kids.length ≤ 100 := hf.kids
  obtain ⟨ka, kc, ek⟩ := (h.kid k hk).form
  have hkl : (natsC (T.get k).kids).length = (T.get k).kids.length := by simp [natsC]
  rw [hkl] at ek
  have HKR0 : Hid (Row w 3 (.slice ka (T.get k).kids.length kc) (natsC (T.get k).kids)) := Lib.hid (ek ▸ h.kid k hk)
  have x1 := (h.cel k hk).2.1
  rw [ek] at x1
  have n1 := cell_of h.row _ x1
  have hcap := h.cap
  have hmax := h.max
  unfold maxLen at hmax
  have kT := h.blk
  unfold treeC TV.nv at kT
  have c0 := cell_of kT 0 (v := .slice (some ⟨V.gN, 0, none⟩) T.nodes.length V.cN) rfl
  have HF := Lib.hid hf
  have HS := Lib.hid hs
  have HSL := Lib.hid hsl
  have g0 : (((T.get k).kids.length : Int) == 0) = false := beq_eq_false_iff_ne.2 (by omega)
  obtain ⟨g, hg⟩ := HKR0.out.addr (by simp [natsC]; omega)
  have e1 : w.cell? ⟨g, n, none⟩ = some (.int .i64 (c : Int)) := by
    have hR := HKR0.out
    rw [hg] at hR
    have := hR.cells0 n (natV c) (by rw [natsC, List.getElem?_map, List.getElem?_eq_getElem hn, ← hc, List.getD_eq_getElem?_getD, List.getElem?_eq_getElem hn]; rfl)
    rwa [Nat.zero_add] at this
  subst hg
  obtain ⟨T5, hT5⟩ : ∃ T5, s.hang k n none = T5 := ⟨_, rfl⟩
  rw [hT5] at hse ⊢
  have HSE := Lib.hid hse
  have HTE := Lib.hid hT5
  have HFI := Lib.hid hfind
  have gj : ((-1 : Int) == -1) = true := rfl
  clear ek hkl x1 h hf kT hs hsl hse hT5 hfind hc hkk
  go_enter Try.func29, Try.ntmps29
  go_upto_region 7 with (first
    | (go_at_call 44; refine (leaf_any V.gN (k * 3) _ _ _ n1).mono ?_; rintro e w9 ⟨rfl, rfl⟩)
    | (go_at_call 46; refine (find_at rfl HH.out HF.out i hi).mono ?_; rintro e w9 ⟨rfl, rfl⟩; rw [HFI.out])
    | (go_at_call 29; refine IH.mono ?_; rintro e w1 ⟨rfl, hm⟩; have HM := Lib.hid hm; clear hm))
  obtain ⟨V5, t5, u5, g5⟩ := HM.out
  rw [show s = T5 from HTE.out] at t5
  have HT5 := Lib.hid t5
  have HF5 : Hid (Frm w V w1 V5) := Lib.hid ⟨u5, g5⟩
  have HB5 : Hid (V5.bT = V.bT) := Lib.hid g5.1
  clear t5 u5 g5 HM
  go_wp2_with (first
    | (go_at_call 31; refine (sum_at HB5.out HT5.out HSE.out.1).mono ?_; rintro e w6 ⟨rfl, hm⟩; obtain ⟨V6, t6, f6⟩ := hm; have HT6 := Lib.hid t6; have HF6 := Lib.hid (HF5.out.trans f6); have HB6 : Hid (V6.bT = V.bT) := Lib.hid HF6.out.2.1; clear t6 f6)
    | (go_at_call 48; refine (split_any HB6.out HT6.out (fine_sum HSE.out.1) HSE.out.2).mono ?_; rintro e w7 ⟨rfl, hm⟩; have HM7 := Lib.hid hm; clear hm))
  go_ret
  exact ⟨rfl, TPost.then HF6.out.1 HF6.out.2 HM7.out⟩
theorem insert_any (line : ByteArray) : ∀ (f : Nat) (T : TD) (k i : Nat), SafeIns line f T k i → i ≤ 10000000 → ∃ o t', TD.ins line f T k i = some (o, t') ∧
    ∀ (w : World) (V : TV) (b : Nat), V.bT = b → TA w V T → Calls Try.prog 29 #[.pointer (some ⟨b, 0, none⟩), .int .i64 (k : Int), .int .i64 (i : Int), .string line] w fun e w' => e = .returned (.int .i64 (optI o)) ∧ TPost w V t' w'
  | 0, _, _, _, hs, _ => hs.elim
  | f + 1, T, k, i, hs, hi => by
    obtain ⟨h1, h2, h3⟩ := hs
    by_cases hl : (T.get k).kids = []
    · obtain ⟨h4, h5⟩ := h2 hl
      refine ⟨_, _, by rw [TD.ins, if_pos hl], fun w V b hb h => ?_⟩
      exact insert_leaf line hb h k i h1 h4 hl h5
    · obtain ⟨h4, h5, h6⟩ := h3 hl
      have hle := find_le T (T.get k).kids 0 i
      obtain ⟨o, s, h7, h8⟩ := insert_any line f T _ _ h5 (by omega)
      obtain ⟨a1, a2, a3⟩ := h6 o s h7
      refine ⟨_, _, by rw [TD.ins, if_neg hl, h7], fun w V b hb h => ?_⟩
      cases o with
      | none => exact insert_node_none line hb h k i _ _ _ h1 hi hl rfl h4 rfl s (h8 w V V.bT rfl h) a1 a2 a3
      | some j => exact insert_node_some line hb h k i _ _ _ h1 hi hl rfl h4 rfl j s (h8 w V V.bT rfl h) a1 a2 a3
end Go.Proofs.Ytmklapbecdhnmaa
