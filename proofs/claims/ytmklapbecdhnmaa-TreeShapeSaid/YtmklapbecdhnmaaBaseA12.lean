/- Lemmas that the law's proof stands on, part 12: Twj, Twk. No condition. -/
import Derived.Test.YtmklapbecdhnmaaBaseA0
import Derived.Test.YtmklapbecdhnmaaBaseA11
set_option linter.all false
set_option linter.unusedVariables false
set_option linter.unusedSimpArgs false
namespace Go.Proofs.Ytmklapbecdhnmaa
open Go.RowKit
theorem make_at2 {w : World} {V : TV} {T T' : TD} {b n : Nat} {x : ND} (hm : T.make x = (n, T')) (hb : V.bT = b) (h : TA w V T) (l k' : Value) (hl : Row w 9 l (strsC x.lines)) (hk : Row w 3 k' (natsC x.kids)) (dl : ∀ b, l.ownBlock = some b → ∀ s, V.own s ≠ some b) (dk : ∀ b, k'.ownBlock = some b → ∀ s, V.own s ≠ some b) (dlk : ∀ b, l.ownBlock = some b → k'.ownBlock = some b → False)
    (hfr : ∀ j ∈ T.free, j < T.nodes.length) (hL : T.load ≤ 10000000) :
    Calls Try.prog 30 #[.pointer (some ⟨b, 0, none⟩), .agg #[l, k', .int .i64 (x.count : Int)]] w fun e w' => e = .returned (.int .i64 (n : Int)) ∧ MPost w V l k' T' w' := by
  have := make_at hb h x l k' hl hk dl dk dlk hfr hL
  rw [hm] at this
  exact this
/-- The root or the sum of bytes has turned. -/
theorem TA.top {w w' : World} {V : TV} {T : TD} (h : TA w V T) {b : Nat} (hb : V.bT = b) (rt : Nat) (y : Int) (hu : Upd (fun i => i = b) w w')
    (k : w'.heap[b]? = some (.cells #[.slice (some ⟨V.gN, 0, none⟩) T.nodes.length V.cN, V.fv, .int .i64 (rt : Int), .int .i64 y] 57 (0, 0))) : TA w' V { T with root := rt, bytes := y } ∧ Frm w V w' V := by
  subst hb
  exact ⟨h.head V.fv T.free rt y (hu.mono (fun b _ e => .inl e)) k (h.fre.upd hu (fun b hb e => by have := h.inj .F .T b hb (by rw [e]; rfl); cases this)) (fun b hb => .inl hb),
    hu.mono (fun b _ e => ⟨.T, by rw [e]; rfl⟩), rfl, fun s b hb => .inl ⟨s, hb⟩⟩
theorem Frm.from_ {w w' : World} (V : TV) (h : From w w') : Frm w V w' V := Frm.newer V ((false_upd2 h).mono (fun _ _ h => h.elim))
theorem TPost.of {w w' : World} {V V' : TV} {T' : TD} (f : Frm w V w' V') (h : TA w' V' T') : TPost w V T' w' := ⟨V', h, f.1, f.2⟩
theorem TPost.frm {w w' : World} {V : TV} {T' : TD} (h : TPost w V T' w') : Later w V T' w' := by
  obtain ⟨V', a, b, c⟩ := h
  exact ⟨V', a, b, c⟩
theorem Later.post {w w' : World} {V : TV} {T' : TD} (h : Later w V T' w') : TPost w V T' w' := by
  obtain ⟨V', a, b, c⟩ := h
  exact ⟨V', a, b, c⟩
theorem TA.head_cells {w : World} {V : TV} {T : TD} (h : TA w V T) {b : Nat} (hb : V.bT = b) : w.heap[b]? = some (.cells #[.slice (some ⟨V.gN, 0, none⟩) T.nodes.length V.cN, V.fv, .int .i64 (T.root : Int), .int .i64 T.bytes] 57 (0, 0)) := by
  subst hb
  exact h.blk
theorem make_bytes (t : TD) (x : ND) : (t.make x).2.bytes = t.bytes := by
  unfold TD.make
  split <;> rfl
theorem top_bytes (s : TD) (o : Option Nat) : (s.top o).bytes = s.bytes := by
  cases o with
  | none => rfl
  | some j => exact make_bytes s _
theorem top_some {s T4 : TD} {j n4 : Nat} (h : s.make ⟨[], [s.root, j], 0⟩ = (n4, T4)) : s.top (some j) = TD.sum { T4 with root := n4, bytes := T4.bytes } n4 := by
  show TD.sum { (s.make ⟨[], [s.root, j], 0⟩).2 with root := (s.make ⟨[], [s.root, j], 0⟩).1 } (s.make ⟨[], [s.root, j], 0⟩).1 = _
  rw [h]
theorem Inv.rep_lt {t : TD} {h : Nat} {ls : List ByteArray} (v : Inv t h ls) : t.root < t.nodes.length := by
  obtain ⟨fp, r, _⟩ := v.rep
  exact r.head.2.1
theorem sizes_nonneg : ∀ ls : List ByteArray, 0 ≤ sizes ls
  | [] => by simp [sizes]
  | a :: ls => by rw [sizes_cons]; have := sizes_nonneg ls; omega
theorem Insert_neg (line : ByteArray) {w : World} {V : TV} {T : TD} (h : TA w V T) (i : Int) (hi : i < 0) :
    Calls Try.prog 12 #[.pointer (some ⟨V.bT, 0, none⟩), .int .i64 i, .string line] w fun e w' => e = .returned (.bool false) ∧ TPost w V T w' := by
  go_enter Try.func12, Try.ntmps12
  go_wp2
  go_ret
  exact ⟨rfl, TPost.refl h⟩
theorem Insert_high (line : ByteArray) {w : World} {V : TV} {T : TD} (h : TA w V T) (hr : T.root < T.nodes.length) (i : Int) (hi : (T.len : Int) < i) :
    Calls Try.prog 12 #[.pointer (some ⟨V.bT, 0, none⟩), .int .i64 i, .string line] w fun e w' => e = .returned (.bool false) ∧ TPost w V T w' := by
  have g1 : ¬ i < 0 := by omega
  go_enter Try.func12, Try.ntmps12
  go_wp2_with (first
    | (go_at_call 22; refine (len_any h hr).mono ?_; rintro e w1 ⟨rfl, hq1⟩))
  go_ret
  exact ⟨rfl, TPost.of (Frm.from_ V hq1) (h.upd (false_upd2 hq1) (fun _ _ _ e => e))⟩
set_option maxRecDepth 100000 in
set_option maxHeartbeats 16000000 in
theorem Insert_some (line : ByteArray) {w : World} {V : TV} {T : TD} (h : TA w V T) (hr : T.root < T.nodes.length) (i : Nat) (hi : i ≤ T.len) (j : Nat) (s : TD)
    (IH : ∀ w, TA w V T → Calls Try.prog 29 #[.pointer (some ⟨V.bT, 0, none⟩), .int .i64 (T.root : Int), .int .i64 (i : Int), .string line] w fun e w' => e = .returned (.int .i64 ((j : Int))) ∧ TPost w V s w')
    (hst : SafeTop s (some j)) (hsb : s.bytes = T.bytes) (hb0 : 0 ≤ T.bytes) (hb : T.bytes + line.size < 9223372036854775808) :
    Calls Try.prog 12 #[.pointer (some ⟨V.bT, 0, none⟩), .int .i64 (i : Int), .string line] w fun e w' => e = .returned (.bool true) ∧ TPost w V { s.top (some j) with bytes := (s.top (some j)).bytes + line.size } w' := by
  have HH := Lib.hid h
  have g1 : ¬ (i : Int) < 0 := by omega
  have g2 : ¬ (T.len : Int) < (i : Int) := by omega
  have gj : ((j : Int) == -1) = false := beq_eq_false_iff_ne.2 (by omega)
  obtain ⟨n4, T4, hmk⟩ : ∃ n4 T4, s.make ⟨[], [s.root, j], 0⟩ = (n4, T4) := ⟨_, _, rfl⟩
  have hfi : ({ T4 with root := n4 } : TD).fine n4 := by have := hst.2.2 j rfl; rw [hmk] at this; exact this
  have HFI := Lib.hid hfi
  have HMK := Lib.hid hmk
  clear hmk hfi
  obtain ⟨T6, hT6⟩ : ∃ T6, s.top (some j) = T6 := ⟨_, rfl⟩
  have hy : T6.bytes = T.bytes := by rw [← hT6, top_bytes, hsb]
  have gw : IntKind.i64.wrap (T6.bytes + (line.size : Int)) = T6.bytes + line.size := IntWalk.i64_in _ (by omega)
  rw [hT6]
  have HTE := Lib.hid hT6
  have HIH := Lib.hid IH
  have HST := Lib.hid hst
  clear h hT6 hsb hb hb0 hy IH hst
  go_enter Try.func12, Try.ntmps12
  go_upto_region 3 with (first
    | (go_at_call 22; refine (len_any HH.out hr).mono ?_; rintro e w1 ⟨rfl, hq1⟩))
  have H1 : Hid (TA w1 V T) := Lib.hid (HH.out.upd (false_upd2 hq1) (fun _ _ _ e => e))
  have HF1 : Hid (Frm w V w1 V) := Lib.hid (Frm.from_ V hq1)
  have c2 := cell_of (H1.out.head_cells rfl) 2 (v := .int .i64 (T.root : Int)) rfl
  clear hq1
  go_upto_region 5 with (first
    | (go_at_call 29; refine (HIH.out w1 H1.out).mono ?_; rintro e w2 ⟨rfl, hm⟩; have HM := Lib.hid hm; clear hm))
  obtain ⟨V2, t2, f2⟩ := HM.out.frm
  have HT2 := Lib.hid t2
  have HF2 := Lib.hid (HF1.out.trans f2)
  have HB2 : Hid (V2.bT = V.bT) := Lib.hid f2.2.1
  have m2 := cell_of (t2.head_cells HB2.out) 2 (v := .int .i64 (s.root : Int)) rfl
  clear t2 f2 HM c2
  go_upto_region 6 with (first
    | ((with_reducible refine stopBS 42 _ _ rfl ?_); unfold Stop; refine wpList_sliceLit_blk rfl 42 3 2 _ rfl Try.underlying42 #[.int .i64 (s.root : Int), .int .i64 (j : Int)] (by go_simp; first | done | rfl | kernel_rfl) ?_; intro bS w3 hbS kS hu3 hs3)
    | (go_at_call 30; refine (make_at2 HMK.out HB2.out (HT2.out.upd hu3 (fun _ _ _ e => e)) (.slice none 0 0) (.slice (some ⟨bS, 0, none⟩) 2 2) (.nil _ _) (.of_cells (kS : w3.heap[bS]? = some (.cells #[.int .i64 (s.root : Int), .int .i64 (j : Int)] 3 (0, 0))) rfl rfl (Nat.le_refl _) (Nat.le_refl _) (by decide)) (fun b hb => by cases hb) (fun b hb s hs => by have e : bS = b := Option.some.inj hb; have := HT2.out.lt hs; omega) (fun b hb => by cases hb) HST.out.1 (by have := HST.out.2.1; omega)).mono ?_; rintro e w4 ⟨rfl, hm⟩; obtain ⟨V4, t4, u4, b4, g4⟩ := hm; have HT4 := Lib.hid t4; have HF4 : Hid (Frm w V w4 V4) := Lib.hid ((HF2.out.trans (Frm.newer V2 (hu3.mono (fun _ _ h => h.elim)))).make u4 b4 g4 (fun b hb => by cases hb) (fun b hb => by have e : bS = b := Option.some.inj hb; right; have := HF2.out.1.size; omega)); have HB4 : Hid (V4.bT = V.bT) := Lib.hid (b4.trans HB2.out); have kT4 := t4.head_cells HB4.out; clear t4 u4 b4 g4)
    | ((with_reducible refine stopSt 3 _ _ rfl ?_); unfold Stop; refine wpList_store_blk rfl 3 _ _ rfl V.bT 2 rfl (.int .i64 (n4 : Int)) rfl _ #[.slice (some ⟨V4.gN, 0, none⟩) T4.nodes.length V4.cN, V4.fv, .int .i64 (n4 : Int), .int .i64 T4.bytes] _ kT4 (zzB rfl) (by kernel_rfl) rfl rfl ?_; intro w5 kT5 hu5 hs5))
  obtain ⟨t5, f5⟩ := HT4.out.top HB4.out n4 T4.bytes hu5 kT5
  have HT5 := Lib.hid t5
  have HF5 := Lib.hid (HF4.out.trans f5)
  have q2 := cell_of kT5 2 (v := .int .i64 (n4 : Int)) rfl
  clear t5 f5 kT5 hu5 hs5 kT4 hs3 hu3 kS m2
  go_upto_region 7 with (first
    | (go_at_call 31; refine (sum_at HB4.out HT5.out HFI.out).mono ?_; rintro e w6 ⟨rfl, hm⟩; have HM := Lib.hid hm; clear hm))
  obtain ⟨V6, t6, f6⟩ := HM.out
  rw [show TD.sum { T4 with root := n4, bytes := T4.bytes } n4 = T6 from by rw [← HTE.out, top_some HMK.out]] at t6
  have HT6 := Lib.hid t6
  have HF6 := Lib.hid (HF5.out.trans f6)
  have HB6 : Hid (V6.bT = V.bT) := Lib.hid HF6.out.2.1
  clear t6 f6 HM
  have gk6 := HT6.out.head_cells HB6.out
  have c3 := cell_of gk6 3 (v := .int .i64 T6.bytes) rfl
  go_wp2_with (first
    | ((with_reducible refine stopSt 3 _ _ rfl ?_); unfold Stop; refine wpList_store_blk rfl 3 _ _ rfl V.bT 3 rfl (.int .i64 (T6.bytes + line.size)) rfl _ #[.slice (some ⟨V6.gN, 0, none⟩) T6.nodes.length V6.cN, V6.fv, .int .i64 (T6.root : Int), .int .i64 (T6.bytes + line.size)] _ gk6 (zzB rfl) (by kernel_rfl) rfl rfl ?_; intro w7 kT7 hu7 hs7))
  go_ret
  obtain ⟨t7, f7⟩ := HT6.out.top HB6.out T6.root (T6.bytes + line.size) hu7 kT7
  exact ⟨rfl, TPost.of (HF6.out.trans f7) t7⟩
set_option maxRecDepth 100000 in
set_option maxHeartbeats 16000000 in
theorem Insert_none (line : ByteArray) {w : World} {V : TV} {T : TD} (h : TA w V T) (hr : T.root < T.nodes.length) (i : Nat) (hi : i ≤ T.len) (s : TD)
    (IH : ∀ w, TA w V T → Calls Try.prog 29 #[.pointer (some ⟨V.bT, 0, none⟩), .int .i64 (T.root : Int), .int .i64 (i : Int), .string line] w fun e w' => e = .returned (.int .i64 (-1)) ∧ TPost w V s w')
    (hst : SafeTop s none) (hsb : s.bytes = T.bytes) (hb0 : 0 ≤ T.bytes) (hb : T.bytes + line.size < 9223372036854775808) :
    Calls Try.prog 12 #[.pointer (some ⟨V.bT, 0, none⟩), .int .i64 (i : Int), .string line] w fun e w' => e = .returned (.bool true) ∧ TPost w V { s.top none with bytes := (s.top none).bytes + line.size } w' := by
  have HH := Lib.hid h
  have g1 : ¬ (i : Int) < 0 := by omega
  have g2 : ¬ (T.len : Int) < (i : Int) := by omega
  have gj : ((-1 : Int) == -1) = true := rfl
  obtain ⟨T6, hT6⟩ : ∃ T6, s.top none = T6 := ⟨_, rfl⟩
  have hy : T6.bytes = T.bytes := by rw [← hT6, top_bytes, hsb]
  have gw : IntKind.i64.wrap (T6.bytes + (line.size : Int)) = T6.bytes + line.size := IntWalk.i64_in _ (by omega)
  rw [hT6]
  have HTE := Lib.hid hT6
  have HIH := Lib.hid IH
  have HST := Lib.hid hst
  clear h hT6 hsb hb hb0 hy IH hst
  go_enter Try.func12, Try.ntmps12
  go_upto_region 3 with (first
    | (go_at_call 22; refine (len_any HH.out hr).mono ?_; rintro e w1 ⟨rfl, hq1⟩))
  have H1 : Hid (TA w1 V T) := Lib.hid (HH.out.upd (false_upd2 hq1) (fun _ _ _ e => e))
  have HF1 : Hid (Frm w V w1 V) := Lib.hid (Frm.from_ V hq1)
  have c2 := cell_of (H1.out.head_cells rfl) 2 (v := .int .i64 (T.root : Int)) rfl
  clear hq1
  go_upto_region 7 with (first
    | (go_at_call 29; refine (HIH.out w1 H1.out).mono ?_; rintro e w2 ⟨rfl, hm⟩; have HM := Lib.hid hm; clear hm))
  obtain ⟨V6, t6, f6⟩ := HM.out.frm
  rw [show s = T6 from HTE.out] at t6
  have HT6 := Lib.hid t6
  have HF6 := Lib.hid (HF1.out.trans f6)
  have HB6 : Hid (V6.bT = V.bT) := Lib.hid HF6.out.2.1
  clear t6 f6 HM c2
  have gk6 := HT6.out.head_cells HB6.out
  have c3 := cell_of gk6 3 (v := .int .i64 T6.bytes) rfl
  go_wp2_with (first
    | ((with_reducible refine stopSt 3 _ _ rfl ?_); unfold Stop; refine wpList_store_blk rfl 3 _ _ rfl V.bT 3 rfl (.int .i64 (T6.bytes + line.size)) rfl _ #[.slice (some ⟨V6.gN, 0, none⟩) T6.nodes.length V6.cN, V6.fv, .int .i64 (T6.root : Int), .int .i64 (T6.bytes + line.size)] _ gk6 (zzB rfl) (by kernel_rfl) rfl rfl ?_; intro w7 kT7 hu7 hs7))
  go_ret
  obtain ⟨t7, f7⟩ := HT6.out.top HB6.out T6.root (T6.bytes + line.size) hu7 kT7
  exact ⟨rfl, TPost.of (HF6.out.trans f7) t7⟩
/-- Insert, whole. -/
theorem Insert_any (line : ByteArray) {w : World} {V : TV} {T : TD} {h : Nat} {ls : List ByteArray} (ha : TA w V T) (v : Inv T h ls) (hL : T.load + (h + 2) ≤ 10000000) (hN : ls.length + 1 ≤ 1000000) (hB : sizes ls + line.size < 9223372036854775808) (i : Int) :
    ∃ T' h', Calls Try.prog 12 #[.pointer (some ⟨V.bT, 0, none⟩), .int .i64 i, .string line] w (fun e w' => e = .returned (.bool (decide (0 ≤ i ∧ i ≤ (ls.length : Int)))) ∧ TPost w V T' w') ∧ Inv T' h' (if 0 ≤ i ∧ i ≤ (ls.length : Int) then insL ls i.toNat line else ls) ∧ T'.load ≤ T.load + (h + 2) := by
  have hr := v.rep_lt
  by_cases hg : i < 0 ∨ (ls.length : Int) < i
  · rw [if_neg (by omega), decide_eq_false (by omega)]
    refine ⟨T, h, ?_, v, by omega⟩
    rcases Int.lt_or_le i 0 with hi | hi
    · exact Insert_neg line ha i hi
    · exact Insert_high line ha hr i (by rw [v.len]; omega)
  · rw [if_pos (by omega), decide_eq_true (by omega)]
    obtain ⟨h1, h2, t', h', h3, h4, h5⟩ := (insert_inv v hL hN i line).2 hg
    refine ⟨t', h', ?_, h4, h5⟩
    obtain ⟨n, rfl⟩ : ∃ n : Nat, i = (n : Int) := ⟨i.toNat, by omega⟩
    rw [Int.toNat_natCast] at h1 h2
    obtain ⟨o, s, h6, h7⟩ := insert_any line _ _ _ _ h1 (by omega)
    obtain ⟨a1, a2, a3⟩ := h2 o s h6
    have hb := v.bytes
    have h0 : 0 ≤ sizes ls := sizes_nonneg ls
    have e : t' = { s.top o with bytes := (s.top o).bytes + line.size } := by
      unfold TD.insert at h3
      rw [v.len, if_neg hg, Int.toNat_natCast, h6] at h3
      injection h3 with h3
      injection h3 with _ h3
      exact h3.symm
    rw [e]
    cases o with
    | none => exact Insert_none line ha hr n (by rw [v.len]; omega) s (fun w hw => h7 w V _ rfl hw) a3 a2 (by omega) (by omega)
    | some j => exact Insert_some line ha hr n (by rw [v.len]; omega) j s (fun w hw => h7 w V _ rfl hw) a3 a2 (by omega) (by omega)
end Go.Proofs.Ytmklapbecdhnmaa
namespace Go.Proofs.Ytmklapbecdhnmaa
open Go.RowKit
theorem cell_setc {w w3 : World} {g i : Nat} {C : Array Value} {e : TypeId} {d : Nat × Nat} {F : Nat → Prop} (hS : Upd F w w3) (hg : w.heap[g]? = some (.cells C e d)) (hn : ¬ F g) (v : Value) :
    Upd (fun b => b = g) w3 (w3.setCell ⟨g, i, none⟩ v) ∧ (w3.setCell ⟨g, i, none⟩ v).heap[g]? = some (.cells (C.setIfInBounds i v) e d) :=
  ⟨(Upd.refl (fun b => b = g) w3).setCell (p := ⟨g, i, none⟩) (fun _ => rfl) v, heap_set (hS.heap hg hn) i v⟩
theorem TA.lput {w w3 w5 : World} {V : TV} {T : TD} (h : TA w V T) {k : Nat} (hk : k < T.nodes.length) {v3 : Value} (xs : List ByteArray) (hS : Upd (fun b => V.own (.L k) = some b) w w3) (hr3 : Row w3 9 v3 (strsC xs)) (hn3 : Near w (V.lv k) v3)
    (hU : Upd (fun b => b = V.gN) w3 w5) (hb5 : w5.heap[V.gN]? = some (.cells (V.C.setIfInBounds (k * 3) v3) 61 (0, 0))) :
    ∃ V5, TA w5 V5 (T.put k { T.get k with lines := xs }) ∧ Frm w V w5 V5 ∧ V5.gN = V.gN ∧ ∀ j, j ≠ k → V5.lv j = V.lv j ∧ V5.kv j = V.kv j := by
  have hk3 : k * 3 + 3 ≤ V.C.size := node_cells h hk
  obtain ⟨x0, x1, x2⟩ := h.cel k hk
  have hU5 : Upd (fun b => b = V.gN ∨ V.own (.L k) = some b ∨ V.own (.K k) = some b) w w5 := (hS.mono (fun b _ e => .inr (.inl e))).then hU (fun b _ e => .inl e)
  have hUo : Upd (fun b => b = V.gN ∨ V.own (.L k) = some b) w w5 := (hS.mono (fun b _ e => .inr e)).then hU (fun b _ e => .inl e)
  have r5 : Row w5 9 v3 (strsC xs) := hr3.upd hU (fun b hb e => by
    rcases hn3 b hb with g | g
    · have := h.inj (.L k) .N b g (by rw [e]; rfl); cases this
    · have := heap_lt h.row; omega)
  have rl5 : Row w5 3 (V.kv k) (natsC (T.get k).kids) := (h.kid k hk).upd hUo (fun b hb e => by
    have hbk : V.own (.K k) = some b := hb
    rcases e with e | e
    · have := h.inj (.K k) .N b hbk (by rw [e]; rfl); cases this
    · have := h.inj (.K k) (.L k) b hbk e; cases this)
  obtain ⟨t5, u5, g5⟩ := h.turn (w' := w5) hk { T.get k with lines := xs } (C' := V.C.setIfInBounds (k * 3) v3) (l' := v3) (k' := V.kv k) hU5 hb5 (by simp) (fun j hj => set_cells j hj (.inl rfl))
    (by rw [Array.getElem?_setIfInBounds_self_of_lt (by omega)]) (by rw [Array.getElem?_setIfInBounds_ne (by omega)]; exact x1) (by rw [Array.getElem?_setIfInBounds_ne (by omega)]; exact x2) r5 rl5
    hn3 (fun b hb => .inl hb) (fun b h1 h2 => by
      have hbk : V.own (.K k) = some b := h2
      rcases hn3 b h1 with g | g
      · have := h.inj (.L k) (.K k) b g hbk; cases this
      · have := h.lt hbk; omega)
  exact ⟨_, t5, ⟨u5, g5⟩, rfl, fun j hj => ⟨if_neg hj, if_neg hj⟩⟩
theorem TA.kput {w w3 w5 : World} {V : TV} {T : TD} (h : TA w V T) {k : Nat} (hk : k < T.nodes.length) {v3 : Value} (xs : List Nat) (hS : Upd (fun b => V.own (.K k) = some b) w w3) (hr3 : Row w3 3 v3 (natsC xs)) (hn3 : Near w (V.kv k) v3)
    (hU : Upd (fun b => b = V.gN) w3 w5) (hb5 : w5.heap[V.gN]? = some (.cells (V.C.setIfInBounds (k * 3 + 1) v3) 61 (0, 0))) :
    ∃ V5, TA w5 V5 (T.put k { T.get k with kids := xs }) ∧ Frm w V w5 V5 ∧ V5.gN = V.gN ∧ ∀ j, j ≠ k → V5.lv j = V.lv j ∧ V5.kv j = V.kv j := by
  have hk3 : k * 3 + 3 ≤ V.C.size := node_cells h hk
  obtain ⟨x0, x1, x2⟩ := h.cel k hk
  have hU5 : Upd (fun b => b = V.gN ∨ V.own (.L k) = some b ∨ V.own (.K k) = some b) w w5 := (hS.mono (fun b _ e => .inr (.inr e))).then hU (fun b _ e => .inl e)
  have hUo : Upd (fun b => b = V.gN ∨ V.own (.K k) = some b) w w5 := (hS.mono (fun b _ e => .inr e)).then hU (fun b _ e => .inl e)
  have r5 : Row w5 3 v3 (natsC xs) := hr3.upd hU (fun b hb e => by
    rcases hn3 b hb with g | g
    · have := h.inj (.K k) .N b g (by rw [e]; rfl); cases this
    · have := heap_lt h.row; omega)
  have rl5 : Row w5 9 (V.lv k) (strsC (T.get k).lines) := (h.lin k hk).upd hUo (fun b hb e => by
    have hbk : V.own (.L k) = some b := hb
    rcases e with e | e
    · have := h.inj (.L k) .N b hbk (by rw [e]; rfl); cases this
    · have := h.inj (.L k) (.K k) b hbk e; cases this)
  obtain ⟨t5, u5, g5⟩ := h.turn (w' := w5) hk { T.get k with kids := xs } (C' := V.C.setIfInBounds (k * 3 + 1) v3) (l' := V.lv k) (k' := v3) hU5 hb5 (by simp) (fun j hj => set_cells j hj (.inr rfl))
    (by rw [Array.getElem?_setIfInBounds_ne (by omega)]; exact x0) (by rw [Array.getElem?_setIfInBounds_self_of_lt (by omega)]) (by rw [Array.getElem?_setIfInBounds_ne (by omega)]; exact x2) rl5 r5
    (fun b hb => .inl hb) hn3 (fun b h1 h2 => by
      have hbk : V.own (.L k) = some b := h1
      rcases hn3 b h2 with g | g
      · have := h.inj (.L k) (.K k) b hbk g; cases this
      · have := h.lt hbk; omega)
  exact ⟨_, t5, ⟨u5, g5⟩, rfl, fun j hj => ⟨if_neg hj, if_neg hj⟩⟩
theorem put_put (t : TD) (k : Nat) (x y : ND) : (t.put k x).put k y = t.put k y := by
  unfold TD.put
  simp
theorem drop_at {w : World} {V : TV} {T : TD} {b : Nat} (hb : V.bT = b) (h : TA w V T) {k : Nat} (hk : k < T.nodes.length) (hL : T.load ≤ 10000000) :
    Calls Try.prog 37 #[.pointer (some ⟨b, 0, none⟩), .int .i64 (k : Int)] w fun e w' => e = .returned (.tuple #[]) ∧
      ∃ V', TA w' V' (T.drop k) ∧ Frm w V w' V' ∧ V'.gN = V.gN ∧ ∀ j, j ≠ k → V'.lv j = V.lv j ∧ V'.kv j = V.kv j := by
  subst hb
  refine (drop_any h hk hL).mono ?_
  rintro e w' ⟨h1, fv', C', t, u, n⟩
  refine ⟨h1, _, t, ⟨u.mono (fun b _ e => ?_), rfl, fun s b hb => ?_⟩, rfl, fun j hj => ⟨if_neg hj, if_neg hj⟩⟩
  · rcases e with e | e | e
    · exact ⟨.N, by rw [e]; rfl⟩
    · exact ⟨.T, by rw [e]; rfl⟩
    · exact ⟨.F, e⟩
  · rcases head_own hb with q | q
    · rw [TV.set_own] at q
      split at q
      · cases q
      · split at q
        · cases q
        · exact .inl ⟨s, q⟩
    · rcases n b q with g | g
      · exact .inl ⟨.F, g⟩
      · exact .inr g
end Go.Proofs.Ytmklapbecdhnmaa
