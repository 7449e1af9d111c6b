/- Lemmas that the law's proof stands on, part 17: Twu, Twv, Tww, Twx, Twy, Tl, Tm. No condition. -/
import Derived.Test.YtmklapbecdhnmaaBaseA0
import Derived.Test.YtmklapbecdhnmaaBaseA6
import Derived.Test.YtmklapbecdhnmaaBaseA16
set_option linter.all false
set_option linter.unusedVariables false
set_option linter.unusedSimpArgs false
namespace Go.Proofs.Ytmklapbecdhnmaa
open Go.RowKit
/-- A node's lines have turned where they lie. -/
theorem TA.lset {w w' : World} {V : TV} {T : TD} (h : TA w V T) {k : Nat} (hk : k < T.nodes.length) (xs : List ByteArray) (hu : Upd (fun b => V.own (.L k) = some b) w w') (hr : Row w' 9 (V.lv k) (strsC xs)) :
    ∃ V', TA w' V' (T.put k { T.get k with lines := xs }) ∧ Frm w V w' V' := by
  have hnN : ¬ V.own (.L k) = some V.gN := fun e => by have := h.inj (.L k) .N V.gN e rfl; cases this
  obtain ⟨x0, x1, x2⟩ := h.cel k hk
  obtain ⟨t, u, g⟩ := h.turn (w' := w') hk { T.get k with lines := xs } (C' := V.C) (l' := V.lv k) (k' := V.kv k) (hu.mono (fun b _ e => .inr (.inl e))) (hu.heap h.row hnN) rfl (fun j _ => ⟨rfl, rfl, rfl⟩) x0 x1 x2 hr
    ((h.kid k hk).upd hu (fun b hb e => by have := h.inj (.K k) (.L k) b hb e; cases this)) (fun b hb => .inl hb) (fun b hb => .inl hb) (fun b h1 h2 => by have := h.inj (.L k) (.K k) b h1 h2; cases this)
  exact ⟨_, t, u, g⟩
theorem Row.set {w' : World} {g n c m : Nat} {xs : List Value} {e : TypeId} {cur : Array Value} (hn : xs.length = n) (hnc : n ≤ c) (hcs : c ≤ cur.size) (hcm : c ≤ maxLen) (ht : cur.toList.take n = xs) (v : Value) (hg : w'.heap[g]? = some (.cells (cur.setIfInBounds m v) e (0, 0))) :
    Row w' e (.slice (some ⟨g, 0, none⟩) n c) (xs.set m v) := by
  refine .of_cells hg ?_ (by rw [List.length_set]; exact hn) hnc (by simpa using hcs) hcm
  rw [Array.toList_setIfInBounds, List.take_set, ht]
theorem Set_neg {w : World} {V : TV} {T : TD} (h : TA w V T) (i : Int) (hi : i < 0) (line : ByteArray) :
    Calls Try.prog 20 #[.pointer (some ⟨V.bT, 0, none⟩), .int .i64 i, .string line] w fun e w' => e = .returned (.bool false) ∧ TPost w V T w' := by
  go_enter Try.func20, Try.ntmps20
  go_wp2
  go_ret
  exact ⟨rfl, TPost.refl h⟩
theorem Set_high {w : World} {V : TV} {T : TD} (h : TA w V T) (hr : T.root < T.nodes.length) (i : Int) (hi : (T.len : Int) ≤ i) (line : ByteArray) :
    Calls Try.prog 20 #[.pointer (some ⟨V.bT, 0, none⟩), .int .i64 i, .string line] w fun e w' => e = .returned (.bool false) ∧ TPost w V T w' := by
  have g1 : ¬ i < 0 := by omega
  go_enter Try.func20, Try.ntmps20
  go_wp2_with (first
    | (go_at_call 22; refine (len_any h hr).mono ?_; rintro e w1 ⟨rfl, hq1⟩))
  go_ret
  exact ⟨rfl, TPost.of (Frm.from_ V hq1) (h.upd (false_upd2 hq1) (fun _ _ _ e => e))⟩
set_option maxRecDepth 100000 in
set_option maxHeartbeats 8000000 in
theorem Set_in (line : ByteArray) {w : World} {V : TV} {T : TD} (h : TA w V T) (hr : T.root < T.nodes.length) (i : Nat) (hi : i < T.len) (hi2 : i ≤ 10000000) (f j m : Nat) (hs : SafeAt T f T.root i) (ha : T.at f T.root i = some (j, m)) (hf : T.fine j) (hm : m < (T.get j).lines.length) (x : ByteArray) (hx : (T.get j).lines.getD m ⟨#[]⟩ = x)
    (hb0 : 0 ≤ T.bytes) (hb1 : T.bytes + line.size < 9223372036854775808) (hb2 : (x.size : Int) ≤ T.bytes) :
    Calls Try.prog 20 #[.pointer (some ⟨V.bT, 0, none⟩), .int .i64 (i : Int), .string line] w fun e w' => e = .returned (.bool true) ∧ TPost w V { T.put j { T.get j with lines := (T.get j).lines.set m line } with bytes := T.bytes + ((line.size : Int) - x.size) } w' := by
  have HH := Lib.hid h
  have g1 : ¬ (i : Int) < 0 := by omega
  have g2 : ¬ (T.len : Int) ≤ (i : Int) := by omega
  have gs1 : IntKind.i64.wrap ((line.size : Int) - (x.size : Int)) = (line.size : Int) - x.size := IntWalk.i64_in _ (by omega)
  have gs2 : IntKind.i64.wrap (T.bytes + ((line.size : Int) - (x.size : Int))) = T.bytes + ((line.size : Int) - x.size) := IntWalk.i64_in _ (by omega)
  have HS := Lib.hid hs
  have HA := Lib.hid ha
  have hj := hf.lt
  obtain ⟨n, hn⟩ : ∃ n, (T.get j).lines.length = n := ⟨_, rfl⟩
  have hn1 : n ≤ 100 := by rw [← hn]; exact hf.lines
  have HGX : Hid ((T.get j).lines[m]? = some x) := Lib.hid (by rw [← hx, List.getD_eq_getElem?_getD, List.getElem?_eq_getElem hm]; rfl)
  rw [hn] at hm
  have HN := Lib.hid hn
  clear hs ha hf hx hn h hb0 hb1 hb2
  go_enter Try.func20, Try.ntmps20
  go_upto_region 3 with (first
    | (go_at_call 22; refine (len_any HH.out hr).mono ?_; rintro e w1 ⟨rfl, hq1⟩))
  have H1 : Hid (TA w1 V T) := Lib.hid (HH.out.upd (false_upd2 hq1) (fun _ _ _ e => e))
  have HQ1 := Lib.hid hq1
  clear hq1
  go_upto_region 4 with (first
    | (go_at_call 35; refine (at_any H1.out f i j m HS.out HA.out hi2).mono ?_; rintro e w9 ⟨rfl, rfl⟩))
  obtain ⟨wd, hwd⟩ : ∃ wd, w1.drew = wd := ⟨_, rfl⟩
  have hqd : From w wd := by rw [← hwd]; exact From.call HQ1.out (Below.refl _ _).drew
  have H2 : Hid (TA wd V T) := Lib.hid (HH.out.upd (false_upd2 hqd) (fun _ _ _ e => e))
  have HF2 : Hid (Frm w V wd V) := Lib.hid (Frm.from_ V hqd)
  clear hqd
  have hrow := H2.out.lin j hj
  obtain ⟨g, cap, cur, el, hg, hnc, hcs, hcm, htk⟩ : ∃ g cap cur, V.lv j = .slice (some ⟨g, 0, none⟩) n cap ∧ wd.heap[g]? = some (.cells cur 9 (0, 0)) ∧ n ≤ cap ∧ cap ≤ cur.size ∧ cap ≤ maxLen ∧ cur.toList.take n = strsC (T.get j).lines := by
    have hl : (strsC (T.get j).lines).length = n := by rw [← HN.out]; simp [strsC]
    rcases hrow with ⟨_, e⟩ | ⟨g, cap, cur, a, b, c, d, e, f⟩
    · rw [e] at hl; simp at hl; omega
    · rw [hl] at a c f
      exact ⟨g, cap, cur, a, b, c, d, e, f⟩
  have n0 : wd.cell? ⟨V.gN, j * 3, none⟩ = some (.slice (some ⟨g, 0, none⟩) n cap) := cell_of H2.out.row _ (by rw [← el]; exact (H2.out.cel j hj).1)
  have e1 : wd.cell? ⟨g, m, none⟩ = some (.string x) := by
    have := Row.cells0 (e := 9) (n := n) (c := cap) (xs := strsC (T.get j).lines) (by rw [← el]; exact hrow) m (.string x) (by rw [strsC, List.getElem?_map, HGX.out]; rfl)
    rwa [Nat.zero_add] at this
  have k3 := H2.out.head_cells rfl
  have c0 := cell_of k3 0 (v := .slice (some ⟨V.gN, 0, none⟩) T.nodes.length V.cN) rfl
  have c3 := cell_of k3 3 (v := .int .i64 T.bytes) rfl
  have f3 := free_of k3 3
  have hcap := H2.out.cap
  have hmax := H2.out.max
  unfold maxLen at hmax
  have HL := Lib.hid el
  have HG := Lib.hid hg
  have HC := Lib.hid (And.intro hcm htk)
  have hgm : m < cur.size := by omega
  clear el hg hcm htk hrow
  refine wp_region_seq (fun v => v = wd) (fun i => i != 22) [(0, true), (1, true), (2, true), (3, true), (4, true), (5, true), (6, true), (7, true), (8, true), (9, true), (10, true), (11, true), (12, true), (13, true), (14, true), (15, true), (16, true), (17, true), (18, true), (19, true), (20, true), (21, true), (22, false)] (by exact rfl) (by kernel_rfl) (by intro c a d v w h; cases d <;> exact h) ?_
  rw [hwd]; have hS : wd = wd := rfl
  iterate 22 (((apply seq_val2 rfl (by rfl); (focus (intro w' hS'; subst hS'; go_simp; (first | done | exact rfl | (rw [if_pos (by omega)]; done)))); (focus exact hS))); (try simp only [Act.put, zzT, zzO, zzS]))
  refine seq_loud2 rfl (fun K hK => ?_)
  go_simp; refine hK _ _ (fun e => by cases e) ?_; clear hK K
  (try simp only [Act.put, zzT, zzO, zzS])
  refine seq_nil ?_
  obtain ⟨hU5, hb5⟩ := cell_setc (i := 3) (Upd.refl (fun _ => False) wd) k3 (fun h => h) (.int .i64 (T.bytes + ((line.size : Int) - x.size)))
  obtain ⟨w5, hw5⟩ : ∃ w5, wd.setCell ⟨V.bT, 3, none⟩ (.int .i64 (T.bytes + ((line.size : Int) - x.size))) = w5 := ⟨_, rfl⟩
  rw [hw5] at hU5 hb5 ⊢
  obtain ⟨t5, f5⟩ := H2.out.top rfl T.root (T.bytes + ((line.size : Int) - x.size)) hU5 hb5
  have hog : V.own (.L j) = some g := by show (V.lv j).ownBlock = _; rw [HL.out]; rfl
  have kg5 : w5.heap[g]? = some (.cells cur 9 (0, 0)) := hU5.heap HG.out (fun e => by have := H2.out.inj (.L j) .T g hog (congrArg some e.symm); cases this)
  have d0 := cell_of hb5 0 (v := .slice (some ⟨V.gN, 0, none⟩) T.nodes.length V.cN) rfl
  have d1 := cell_of t5.row (j * 3) (v := .slice (some ⟨g, 0, none⟩) n cap) (by rw [← HL.out]; exact (H2.out.cel j hj).1)
  have HT5 := Lib.hid t5
  have HF5 := Lib.hid (HF2.out.trans f5)
  clear t5 f5 hU5 hb5 hw5 n0 e1 c0 c3 f3 k3 hS
  go_wp2_with (first
    | ((with_reducible refine stopSt 9 _ _ rfl ?_); unfold Stop; refine wpList_store_blk rfl 9 _ _ rfl g m rfl (.string line) rfl cur (cur.setIfInBounds m (.string line)) _ kg5 (by show m + 1 ≤ cur.size; omega) (by kernel_rfl) rfl rfl ?_; intro w8 k8 hu8 hs8))
  go_ret
  obtain ⟨V9, t9, f9⟩ := HT5.out.lset hj ((T.get j).lines.set m line) (hu8.mono (fun b _ e => by rw [hog, e])) (by
    show Row w8 _ (V.lv j) _
    rw [HL.out]
    have := Row.set (e := 9) (by rw [← HN.out]; simp [strsC]) hnc hcs HC.out.1 HC.out.2 (.string line) k8
    rwa [show strsC ((T.get j).lines.set m line) = (strsC (T.get j).lines).set m (.string line) from List.map_set])
  exact ⟨rfl, TPost.of (HF5.out.trans f9) t9⟩
/-- Set, whole. -/
theorem Set_any (line : ByteArray) {w : World} {V : TV} {T : TD} {h : Nat} {ls : List ByteArray} (ha : TA w V T) (v : Inv T h ls) (hL : T.load ≤ 10000000) (hN : ls.length ≤ 1000000) (hB : sizes ls + line.size < 9223372036854775808) (i : Int) :
    ∃ T', Calls Try.prog 20 #[.pointer (some ⟨V.bT, 0, none⟩), .int .i64 i, .string line] w (fun e w' => e = .returned (.bool (decide (0 ≤ i ∧ i < (ls.length : Int)))) ∧ TPost w V T' w') ∧ Inv T' h (if 0 ≤ i ∧ i < (ls.length : Int) then ls.set i.toNat line else ls) ∧ T'.load ≤ T.load := by
  have hr := v.rep_lt
  by_cases hg : i < 0 ∨ (ls.length : Int) ≤ i
  · rw [if_neg (by omega), decide_eq_false (by omega)]
    refine ⟨T, ?_, v, by omega⟩
    rcases Int.lt_or_le i 0 with hi | hi
    · exact Set_neg ha i hi line
    · exact Set_high ha hr i (by rw [v.len]; omega) line
  · rw [if_pos (by omega), decide_eq_true (by omega)]
    obtain ⟨n, rfl⟩ : ∃ n : Nat, i = (n : Int) := ⟨i.toNat, by omega⟩
    rw [Int.toNat_natCast]
    obtain ⟨a1, j, m, a2, a3, a4, a5, a6⟩ := at_inv v hL hN n (by omega)
    have hb := v.bytes
    have h0 := sizes_nonneg ls
    have h1 := sizes_nonneg (delL ls n)
    rw [sizes_del ls n (by omega)] at h1
    exact ⟨_, Set_in line ha hr n (by rw [v.len]; omega) (by omega) _ j m a1 a2 a3 a4 _ a5 (by omega) (by omega) (by omega), a6 line, Nat.le_of_eq (load_put T j _)⟩
end Go.Proofs.Ytmklapbecdhnmaa
namespace Go.Proofs.Ytmklapbecdhnmaa
open Go.RowKit
theorem Bytes_any {w : World} {V : TV} {T : TD} (h : TA w V T) :
    Calls Try.prog 15 #[.pointer (some ⟨V.bT, 0, none⟩)] w fun e w' => e = .returned (.int .i64 T.bytes) ∧ w = w' := by
  have c3 := cell_of (h.head_cells rfl) 3 (v := .int .i64 T.bytes) rfl
  go_enter Try.func15, Try.ntmps15
  go_wp2
  go_ret
  exact ⟨rfl, rfl⟩
theorem span_neg {w : World} {V : TV} (i n : Int) (hi : i < 0) :
    Calls Try.prog 34 #[.pointer (some ⟨V.bT, 0, none⟩), .int .i64 i, .int .i64 n] w fun e w' => e = .returned (.bool false) ∧ From w w' := by
  have g1 : ¬ 0 ≤ i := by omega
  go_enter Try.func34, Try.ntmps34
  go_wp2
  go_ret
  exact ⟨rfl, From.refl _⟩
theorem span_neg2 {w : World} {V : TV} (i n : Int) (hi : 0 ≤ i) (hn : n < 0) :
    Calls Try.prog 34 #[.pointer (some ⟨V.bT, 0, none⟩), .int .i64 i, .int .i64 n] w fun e w' => e = .returned (.bool false) ∧ From w w' := by
  have g1 : ¬ 0 ≤ n := by omega
  go_enter Try.func34, Try.ntmps34
  go_wp2
  go_ret
  exact ⟨rfl, From.refl _⟩
theorem span_high {w : World} {V : TV} {T : TD} (h : TA w V T) (hr : T.root < T.nodes.length) (i n : Int) (hi : 0 ≤ i) (hn : 0 ≤ n) (hl : (T.len : Int) < i) :
    Calls Try.prog 34 #[.pointer (some ⟨V.bT, 0, none⟩), .int .i64 i, .int .i64 n] w fun e w' => e = .returned (.bool false) ∧ From w w' := by
  have g1 : ¬ i ≤ (T.len : Int) := by omega
  go_enter Try.func34, Try.ntmps34
  go_wp2_with (first
    | (go_at_call 22; refine (len_any h hr).mono ?_; rintro e w1 ⟨rfl, hq1⟩))
  go_ret
  exact ⟨rfl, hq1⟩
theorem span_in {w : World} {V : TV} {T : TD} (h : TA w V T) (hr : T.root < T.nodes.length) (i n : Int) (hi : 0 ≤ i) (hn : 0 ≤ n) (hl : i ≤ (T.len : Int)) (hm : T.len ≤ 10000000) :
    Calls Try.prog 34 #[.pointer (some ⟨V.bT, 0, none⟩), .int .i64 i, .int .i64 n] w fun e w' => e = .returned (.bool (decide (n ≤ (T.len : Int) - i))) ∧ From w w' := by
  have HH := Lib.hid h
  have gs : IntKind.i64.wrap ((T.len : Int) - i) = (T.len : Int) - i := IntWalk.i64_in _ (by omega)
  go_enter Try.func34, Try.ntmps34
  go_wp2_with (first
    | (go_at_call 22; refine (len_any HH.out hr).mono ?_; rintro e w1 ⟨rfl, hq1⟩)
    | (go_at_call 22; refine (len_any (HH.out.upd (false_upd2 hq1) (fun _ _ _ e => e)) hr).mono ?_; rintro e w2 ⟨rfl, hq2⟩))
  go_ret
  exact ⟨rfl, From.call hq1 hq2⟩
theorem span_any {w : World} {V : TV} {T : TD} (h : TA w V T) (hr : T.root < T.nodes.length) (hm : T.len ≤ 10000000) (i n : Int) :
    Calls Try.prog 34 #[.pointer (some ⟨V.bT, 0, none⟩), .int .i64 i, .int .i64 n] w fun e w' => e = .returned (.bool (decide (0 ≤ i ∧ 0 ≤ n ∧ i + n ≤ (T.len : Int)))) ∧ From w w' := by
  rcases Int.lt_or_le i 0 with h1 | h1
  · rw [decide_eq_false (by omega)]
    exact span_neg i n h1
  rcases Int.lt_or_le n 0 with h2 | h2
  · rw [decide_eq_false (by omega)]
    exact span_neg2 i n h1 h2
  rcases Int.lt_or_le (T.len : Int) i with h3 | h3
  · rw [decide_eq_false (by omega)]
    exact span_high h hr i n h1 h2 h3
  · have e : decide (0 ≤ i ∧ 0 ≤ n ∧ i + n ≤ (T.len : Int)) = decide (n ≤ (T.len : Int) - i) := by
      apply decide_eq_decide.2
      omega
    rw [e]
    exact span_in h hr i n h1 h2 h3 hm
end Go.Proofs.Ytmklapbecdhnmaa
namespace Go.Proofs.Ytmklapbecdhnmaa
open Go.RowKit
theorem fold_len {t : TD} {f : Nat} (ih : ∀ k out res, t.walk f k out = some res → out.length ≤ res.length) : ∀ (ks : List Nat) (o res : List ByteArray), ks.foldlM (fun o j => t.walk f j o) o = some res → o.length ≤ res.length
  | [], o, res, h => by
    rw [List.foldlM_nil] at h
    injection h with h
    rw [h]
    exact Nat.le_refl _
  | k :: ks, o, res, h => by
    rw [List.foldlM_cons] at h
    cases hk : t.walk f k o with
    | none => rw [hk] at h; cases h
    | some o1 =>
      rw [hk] at h
      have h1 := ih k o o1 hk
      have h2 := fold_len ih ks o1 res h
      omega
theorem walk_len (t : TD) : ∀ (f k : Nat) (out res : List ByteArray), t.walk f k out = some res → out.length ≤ res.length
  | 0, _, _, _, h => by cases h
  | f + 1, k, out, res, h => by
    have := fold_len (walk_len t f) _ _ _ h
    rw [List.length_append] at this
    omega
def WPost (w : World) (ov : Value) (res : List ByteArray) (e : Ending) (w' : World) : Prop := ∃ v', e = .returned v' ∧ Row w' 9 v' (strsC res) ∧ Upd (fun b => ov.ownBlock = some b) w w' ∧ Near w ov v'
end Go.Proofs.Ytmklapbecdhnmaa
namespace Go.Proofs.Ytmklapbecdhnmaa
open Go.RowKit
set_option maxRecDepth 100000 in
set_option maxHeartbeats 16000000 in
theorem walk_node {w : World} {V : TV} {T : TD} {f k : Nat} (ov : Value) (out res : List ByteArray) (h : TA w V T) (hf : T.fine k) (hw : T.walk (f + 1) k out = some res) (hl : res.length ≤ 1000000) (ho : Row w 9 ov (strsC out)) (hd : ∀ b, ov.ownBlock = some b → ∀ s, V.own s ≠ some b)
    (IH : ∀ (w : World) (j : Nat) (ov : Value) (out res : List ByteArray), j ∈ (T.get k).kids → TA w V T → T.walk f j out = some res → res.length ≤ 1000000 → Row w 9 ov (strsC out) → (∀ b, ov.ownBlock = some b → ∀ s, V.own s ≠ some b) → Calls Try.prog 32 #[.pointer (some ⟨V.bT, 0, none⟩), .int .i64 (j : Int), ov] w (WPost w ov res)) :
    Calls Try.prog 32 #[.pointer (some ⟨V.bT, 0, none⟩), .int .i64 (k : Int), ov] w (WPost w ov res) := by
  have HH := Lib.hid h
  have hk := hf.lt
  have hwl := fold_len (walk_len T f) _ _ _ hw
  rw [List.length_append] at hwl
  obtain ⟨nl, hnl⟩ : ∃ n, (T.get k).lines.length = n := ⟨_, rfl⟩
  obtain ⟨nk, hnk⟩ : ∃ n, (T.get k).kids.length = n := ⟨_, rfl⟩
  have hnk1 : nk ≤ 100 := by rw [← hnk]; exact hf.kids
  obtain ⟨la, lc, el⟩ := (h.lin k hk).form
  obtain ⟨ka, kc, ek⟩ := (h.kid k hk).form
  rw [show (strsC (T.get k).lines).length = nl by rw [← hnl]; simp [strsC]] at el
  rw [show (natsC (T.get k).kids).length = nk by rw [← hnk]; simp [natsC]] at ek
  have HRL : Hid (Row w 9 (.slice la nl lc) (strsC (T.get k).lines)) := Lib.hid (el ▸ h.lin k hk)
  have HRK : Hid (Row w 3 (.slice ka nk kc) (natsC (T.get k).kids)) := Lib.hid (ek ▸ h.kid k hk)
  have HVK := Lib.hid ek
  have HKC : Hid (V.C[k * 3 + 1]? = some (.slice ka nk kc)) := Lib.hid (by rw [← ek]; exact (h.cel k hk).2.1)
  have n0 : w.cell? ⟨V.gN, k * 3, none⟩ = some (.slice la nl lc) := cell_of h.row _ (by rw [← el]; exact (h.cel k hk).1)
  have c0 := cell_of (h.head_cells rfl) 0 (v := .slice (some ⟨V.gN, 0, none⟩) T.nodes.length V.cN) rfl
  have hcap := h.cap
  have hmax := h.max
  unfold maxLen at hmax
  obtain ⟨i0, hi, hz0, hz3, hz4⟩ := info_parts info_str1
  have HO := Lib.hid ho
  have HD := Lib.hid hd
  have HW : Hid ((T.get k).kids.foldlM (fun o j => T.walk f j o) (out ++ (T.get k).lines) = some res) := Lib.hid hw
  have HIH := Lib.hid IH
  have HNK := Lib.hid hnk
  have hlo : (strsC out).length = out.length := by simp [strsC]
  have hll : (strsC (T.get k).lines).length = nl := by rw [← hnl]; simp [strsC]
  have HB : Hid ((strsC out).length + (strsC (T.get k).lines).length ≤ 1000000) := Lib.hid (by rw [hlo, hll]; omega)
  clear hwl hnl hnk hf el ek h ho hd hw IH hlo hll
  go_enter Try.func32, Try.ntmps32
  go_upto_region 2 with (first
    | (at_builtin; refine wpList_append_rows _ rfl _ _ 22 rfl 9 i0 _ 16 Try.underlying22 hi hz0 hz3 hz4 rfl ov rfl (strsC out) HO.out (.slice la nl lc) rfl (strsC (T.get k).lines) HRL.out (strsC_ones _) (by have := HB.out; unfold maxLen; omega) (by have := HB.out; omega) ?_; intro v3 w3 hr3 hu3 hn3))
  have H3 : Hid (TA w3 V T) := Lib.hid (HH.out.upd hu3 (fun s b hs e => HD.out b e s hs))
  have HR3 : Hid (Row w3 9 v3 (strsC (out ++ (T.get k).lines))) := Lib.hid (by rw [show strsC (out ++ (T.get k).lines) = strsC out ++ strsC (T.get k).lines from List.map_append]; exact hr3)
  have HU3 := Lib.hid hu3
  have HN3 := Lib.hid hn3
  have c3 := cell_of (H3.out.head_cells rfl) 0 (v := .slice (some ⟨V.gN, 0, none⟩) T.nodes.length V.cN) rfl
  have n3 := cell_of H3.out.row (k * 3 + 1) HKC.out
  clear hr3 hu3 hn3 n0 c0
  go_wp2
  go_loopg [2, 28] nk (fun gk o iv wr => ∃ i : Nat, ∃ ol : List ByteArray, iv = .int .i64 (i : Int) ∧ i + gk = nk ∧ Hid (Row wr 9 o (strsC ol)) ∧ Hid (Upd (fun b => ov.ownBlock = some b) w wr) ∧ Hid (Near w ov o) ∧ Hid (((T.get k).kids.drop i).foldlM (fun o j => T.walk f j o) ol = some res))
  case atStart => exact ⟨0, _, rfl, by omega, HR3, HU3, HN3, HW⟩
  case round =>
    obtain ⟨i, ol, rfl, hgk, HR, HU, HN, HF⟩ := hrel
    by_cases hlt : i < nk
    · have hil : i < (T.get k).kids.length := by rw [HNK.out]; exact hlt
      obtain ⟨g, hg⟩ := HRK.out.addr (by rw [natsC, List.length_map, HNK.out]; omega)
      subst hg
      obtain ⟨j, hj⟩ : ∃ j, (T.get k).kids[i] = j := ⟨_, rfl⟩
      have hjm : j ∈ (T.get k).kids := by rw [← hj]; exact List.getElem_mem hil
      have hrw := HRK.out.upd HU.out (fun b hb e => HD.out b e (.K k) (by show (V.kv k).ownBlock = _; rw [HVK.out]; exact hb))
      have e1 : wr.cell? ⟨g, i, none⟩ = some (.int .i64 (j : Int)) := by
        have := hrw.cells0 i (natV j) (by rw [natsC, List.getElem?_map, List.getElem?_eq_getElem hil, hj]; rfl)
        rwa [Nat.zero_add] at this
      have hfo := HF.out
      rw [List.drop_eq_getElem_cons hil, hj, List.foldlM_cons] at hfo
      cases hk2 : T.walk f j ol with
      | none => rw [hk2] at hfo; cases hfo
      | some o1 =>
        rw [hk2] at hfo
        have HF1 : Hid (((T.get k).kids.drop (i + 1)).foldlM (fun o j => T.walk f j o) o1 = some res) := Lib.hid hfo
        have hlen : o1.length ≤ 1000000 := Nat.le_trans (fold_len (walk_len T f) _ _ _ HF1.out) hl
        have H4 : Hid (TA wr V T) := Lib.hid (HH.out.upd HU.out (fun s b hs e => HD.out b e s hs))
        have HDO : Hid (∀ b, Value.ownBlock u2 = some b → ∀ s, V.own s ≠ some b) := Lib.hid (fun b hb s hs => by
          rcases HN.out b hb with q | q
          · exact HD.out b q s hs
          · have := HH.out.lt hs; omega)
        have HW1 := Lib.hid hk2
        clear hfo hk2 hj hrw c3 n3
        go_wp2_with (go_at_call 32; refine (HIH.out wr j u2 ol o1 hjm H4.out HW1.out hlen HR.out HDO.out).mono ?_; rintro e w5 ⟨v5, rfl, hr5, hu5, hn5⟩)
        go_roundg (gk - 1)
        case measure => omega
        case rel => exact ⟨i + 1, o1, by go_num, by omega, Lib.hid hr5, Lib.hid (HU.out.then hu5 (fun b hb e => (HN.out b e).elim id (fun q => by omega))), Lib.hid (Near.then HN.out hn5 HU.out.size), HF1⟩
    · have hi0 : i = (T.get k).kids.length := by rw [HNK.out]; omega
      have hfo := HF.out
      rw [hi0, List.drop_length, List.foldlM_nil] at hfo
      injection hfo with hfo
      have HE := Lib.hid hfo
      clear hfo hi0 c3 n3
      go_wp2
      go_ret
      exact ⟨_, rfl, by rw [← HE.out]; exact HR.out, HU.out, HN.out⟩
theorem walk_any {V : TV} {T : TD} : ∀ (f k : Nat), SafeWalk T f k → ∀ (w : World) (ov : Value) (out res : List ByteArray), TA w V T → T.walk f k out = some res → res.length ≤ 1000000 → Row w 9 ov (strsC out) → (∀ b, ov.ownBlock = some b → ∀ s, V.own s ≠ some b) →
    Calls Try.prog 32 #[.pointer (some ⟨V.bT, 0, none⟩), .int .i64 (k : Int), ov] w (WPost w ov res)
  | 0, _, hs => hs.elim
  | f + 1, k, hs => fun w ov out res h hw hl ho hd => walk_node ov out res h hs.1 hw hl ho hd (fun w j ov out res hj h hw hl ho hd => walk_any f j (hs.2 j hj) w ov out res h hw hl ho hd)
end Go.Proofs.Ytmklapbecdhnmaa
namespace Go.Proofs.Ytmklapbecdhnmaa
open Go.RowKit
theorem Lines_any {w : World} {V : TV} {T : TD} {h : Nat} {ls : List ByteArray} (ha : TA w V T) (v : Inv T h ls) (hL : T.load ≤ 10000000) (hN : ls.length ≤ 1000000) :
    Calls Try.prog 14 #[.pointer (some ⟨V.bT, 0, none⟩)] w (WPost w (.slice none 0 0) ls) := by
  have hs : SafeWalk T (h + 1) T.root := by
    obtain ⟨fp, r, g⟩ := v.rep
    exact safe_walk h T T.root ls fp r g.nodup (fun x hx => g.lt x (by simp [hx])) hL hN v.le
  have IH := Lib.hid (walk_any (V := V) (h + 1) T.root hs w (.slice none 0 0) [] ls ha (walk_inv v) hN (.nil _ _) (fun b hb => by cases hb))
  have c2 := cell_of (ha.head_cells rfl) 2 (v := .int .i64 (T.root : Int)) rfl
  clear hs ha v
  go_enter Try.func14, Try.ntmps14
  go_wp2_with (first
    | (go_at_call 32; refine IH.out.mono ?_; rintro e w5 ⟨v5, rfl, hr5, hu5, hn5⟩))
  go_ret
  exact ⟨_, rfl, hr5, hu5, hn5⟩
end Go.Proofs.Ytmklapbecdhnmaa
namespace Go.Proofs.Ytmklapbecdhnmaa
def spliceL {α : Type} (ls : List α) (i n : Nat) (new : List α) : List α := ls.take i ++ (new ++ ls.drop (i + n))
theorem splice_zero {α : Type} (ls : List α) (i : Nat) : spliceL ls i 0 [] = ls := by simp [spliceL]
theorem splice_len {α : Type} (ls : List α) (i n : Nat) (new : List α) (h : i + n ≤ ls.length) : (spliceL ls i n new).length + n = ls.length + new.length := by
  simp only [spliceL, List.length_append, List.length_take, List.length_drop]
  omega
theorem splice_set {α : Type} (ls : List α) (i n : Nat) (new : List α) (x : α) (h : i + n < ls.length) : (spliceL ls i n new).set (i + new.length) x = spliceL ls i (n + 1) (new ++ [x]) := by
  have hi : (ls.take i).length = i := by rw [List.length_take]; omega
  unfold spliceL
  rw [List.drop_eq_getElem_cons h, List.set_append_right _ _ (by omega), List.set_append_right _ _ (by omega), hi]
  rw [show i + new.length - i - new.length = 0 by omega, zzO, List.append_assoc]
  rfl
theorem splice_del {α : Type} (ls : List α) (i n : Nat) (new : List α) (h : i + n < ls.length) : delL (spliceL ls i n new) (i + new.length) = spliceL ls i (n + 1) new := by
  have hi : (ls.take i).length = i := by rw [List.length_take]; omega
  have hl : (ls.take i ++ new).length = i + new.length := by rw [List.length_append, hi]
  unfold spliceL delL
  rw [List.drop_eq_getElem_cons h, ← List.append_assoc, List.take_left' hl, ← List.append_assoc]
  congr 1
  rw [List.drop_append, List.drop_of_length_le (by omega), hl, show i + new.length + 1 - (i + new.length) = 1 by omega]
  rfl
theorem splice_ins {α : Type} (ls : List α) (i n : Nat) (new : List α) (x : α) (h : i ≤ ls.length) : insL (spliceL ls i n new) (i + new.length) x = spliceL ls i n (new ++ [x]) := by
  have hi : (ls.take i).length = i := by rw [List.length_take]; omega
  have hl : (ls.take i ++ new).length = i + new.length := by rw [List.length_append, hi]
  unfold spliceL insL
  rw [← List.append_assoc, List.take_left' hl, List.drop_left' hl]
  simp
end Go.Proofs.Ytmklapbecdhnmaa
namespace Go.Proofs.Ytmklapbecdhnmaa
/-- The levels are as the chapter says, of so many lines. -/
def Lv (n : Nat) : List (List Nat) → Prop
  | [] => False
  | [a] => a.sum = n
  | a :: b :: r => a.sum = b.length ∧ (∀ x ∈ b, 4 ≤ x ∧ x ≤ 8) ∧ Lv n (b :: r)
def Ranks (t : TD) (h : Nat) (subs : List Sub) : Prop := ∀ s ∈ subs, Rep t h s.k s.ls s.fp ∧ (t.get s.k).size ≤ 8
theorem Subs.ranks {t : TD} {h : Nat} {subs : List Sub} (x : Subs t h subs) : Ranks t h subs := fun s hs => ⟨(x s hs).1, (x s hs).2.2⟩
theorem ranks_zero {t : TD} : ∀ (subs : List Sub), Ranks t 0 subs → ((kidsOf subs).map fun k => (t.get k).size).sum = (linesOf subs).length ∧ (kidsOf subs).flatMap (fun k => (t.get k).kids) = []
  | [], _ => ⟨rfl, rfl⟩
  | s :: subs, h => by
    obtain ⟨a, b⟩ := ranks_zero subs (fun x hx => h x (List.mem_cons_of_mem _ hx))
    obtain ⟨⟨r1, _⟩, _⟩ := h s List.mem_cons_self
    rw [kidsOf_cons, linesOf_cons, List.map_cons, List.sum_cons, List.flatMap_cons, a, b, get_of r1, List.length_append]
    exact ⟨by simp [ND.size], rfl⟩
theorem ranks_succ {t : TD} {h : Nat} : ∀ (subs : List Sub), Ranks t (h + 1) subs → ∃ nx : List Sub, (kidsOf subs).flatMap (fun k => (t.get k).kids) = kidsOf nx ∧ linesOf subs = linesOf nx ∧ Subs t h nx ∧ ((kidsOf subs).map fun k => (t.get k).size).sum = nx.length ∧ (subs ≠ [] → nx ≠ [])
  | [], _ => ⟨[], rfl, rfl, (by intro s hs; cases hs), rfl, fun e => absurd rfl e⟩
  | s :: subs, hh => by
    obtain ⟨nx, a1, a2, a3, a4, _⟩ := ranks_succ subs (fun x hx => hh x (List.mem_cons_of_mem _ hx))
    obtain ⟨⟨su, r1, r2, r3, r4, r5⟩, _⟩ := hh s List.mem_cons_self
    have hk := kids_size r1
    refine ⟨su ++ nx, ?_, ?_, ?_, ?_, fun _ e => r4 (List.append_eq_nil_iff.1 e).1⟩
    · rw [kidsOf_cons, List.flatMap_cons, hk.2, a1, kidsOf_app]
    · rw [linesOf_cons, r2, a2, linesOf_app]
    · intro x hx
      rcases List.mem_append.1 hx with q | q
      · exact r5 x q
      · exact a3 x q
    · rw [kidsOf_cons, List.map_cons, List.sum_cons, a4, hk.1, List.length_append]
def TD.levels (t : TD) : Nat → List Nat → List (List Nat)
  | 0, ks => [ks.map fun k => (t.get k).size]
  | h + 1, ks => (ks.map fun k => (t.get k).size) :: t.levels h (ks.flatMap fun k => (t.get k).kids)
theorem levels_len (t : TD) : ∀ (h : Nat) (ks : List Nat), (t.levels h ks).length = h + 1
  | 0, _ => rfl
  | h + 1, ks => by rw [TD.levels, List.length_cons, levels_len t h]
theorem levels_head (t : TD) (h : Nat) (ks : List Nat) : ∃ r, t.levels h ks = (ks.map fun k => (t.get k).size) :: r := by
  cases h with
  | zero => exact ⟨_, rfl⟩
  | succ h => exact ⟨_, rfl⟩
theorem Subs.few {t : TD} {h : Nat} : ∀ {subs : List Sub}, Subs t h subs → subs.length ≤ (linesOf subs).length
  | [], _ => Nat.le_refl _
  | s :: subs, x => by
    have ih := Subs.few (subs := subs) (fun y hy => x y (List.mem_cons_of_mem _ hy))
    obtain ⟨r, r4, _⟩ := x s List.mem_cons_self
    have h1 := high h t s.k s.ls s.fp r
    have h2 : 1 ≤ 4 ^ h := Nat.one_le_pow _ _ (by decide)
    have h3 : 4 * 1 ≤ (t.get s.k).size * 4 ^ h := Nat.mul_le_mul r4 h2
    rw [linesOf_cons, List.length_cons, List.length_append]
    omega
theorem levels_ok {t : TD} : ∀ (h : Nat) (subs : List Sub), Ranks t h subs → Lv (linesOf subs).length (t.levels h (kidsOf subs))
  | 0, subs, hr => (ranks_zero subs hr).1
  | h + 1, subs, hr => by
    obtain ⟨nx, a1, a2, a3, a4, _⟩ := ranks_succ subs hr
    have ih := levels_ok h nx a3.ranks
    rw [TD.levels, a1, a2]
    obtain ⟨r, e⟩ := levels_head t h (kidsOf nx)
    rw [e] at ih ⊢
    refine ⟨by rw [a4]; simp [kidsOf_len], fun x hx => ?_, ih⟩
    obtain ⟨k, hk, rfl⟩ := List.mem_map.1 hx
    obtain ⟨s, hs, rfl⟩ := List.mem_map.1 hk
    exact (a3 s hs).2
/-- What Shape tells. -/
structure Told (n : Nat) (L : List (List Nat)) : Prop where
  lv : Lv n L
  one : ∃ x r, L = [x] :: r ∧ x ≤ 8 ∧ (r ≠ [] → 2 ≤ x) ∧ (r = [] → x = n) ∧ (r ≠ [] → 2 * 4 ^ r.length ≤ n) ∧ x * 4 ^ r.length ≤ n
theorem Inv.told {t : TD} {h : Nat} {ls : List ByteArray} (v : Inv t h ls) : Told ls.length (t.levels h [t.root]) := by
  obtain ⟨fp, r, g⟩ := v.rep
  have hr : Ranks t h [⟨t.root, ls, fp⟩] := by
    intro s hs
    rcases List.mem_singleton.1 hs with rfl
    exact ⟨r, v.le⟩
  have h1 : Lv _ (t.levels h [t.root]) := levels_ok h _ hr
  have h2 : linesOf [(⟨t.root, ls, fp⟩ : Sub)] = ls := by simp [linesOf]
  rw [h2] at h1
  refine ⟨h1, ?_⟩
  have hl := levels_len t h [t.root]
  obtain ⟨q, e⟩ := levels_head t h [t.root]
  rw [e] at h1 hl
  have hq : q.length = h := by simpa using hl
  have hh := Go.Proofs.Ytmklapbecdhnmaa.high h t t.root ls fp r
  refine ⟨(t.get t.root).size, q, e, v.le, fun e2 => v.two (by intro e3; subst e3; exact e2 (List.eq_nil_of_length_eq_zero hq)), fun e2 => ?_, fun e2 => ?_, by rw [hq]; exact hh⟩
  · subst e2
    have : [(t.get t.root).size].sum = ls.length := h1
    simpa using this
  · rw [hq]
    exact Nat.le_trans (Nat.mul_le_mul_right _ (v.two (by intro e3; subst e3; exact e2 (List.eq_nil_of_length_eq_zero hq)))) hh
theorem Told.nine {L : List (List Nat)} (h : Told 9 L) : ∃ a b, L = [[2], [a, b]] ∧ a + b = 9 := by
  obtain ⟨h1, x, r, rfl, h2, h3, h4, h5, h6⟩ := h
  match r with
  | [] => exact absurd (h4 rfl) (by omega)
  | [l] =>
    have e : x = 2 := by have := h3 (by simp); simp at h6; omega
    subst e
    obtain ⟨q1, q2, q3⟩ := h1
    match l with
    | [] => simp at q1
    | [a] => simp at q1
    | [a, b] => exact ⟨a, b, rfl, by have : [a, b].sum = 9 := q3; simpa using this⟩
    | a :: b :: c :: l => simp at q1
  | a :: b :: r =>
    have := h5 (by simp)
    have h7 : 4 ^ 2 ≤ 4 ^ (a :: b :: r).length := Nat.pow_le_pow_right (by decide) (by simp)
    omega
end Go.Proofs.Ytmklapbecdhnmaa
