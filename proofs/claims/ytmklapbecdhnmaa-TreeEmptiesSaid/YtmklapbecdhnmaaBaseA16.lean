/- Lemmas that the law's proof stands on, part 16: Twr, Tws, Twt. No condition. -/
import Derived.Test.YtmklapbecdhnmaaBaseA0
import Derived.Test.YtmklapbecdhnmaaBaseA15
set_option linter.all false
set_option linter.unusedVariables false
set_option linter.unusedSimpArgs false
namespace Go.Proofs.Ytmklapbecdhnmaa
open Go.RowKit
set_option maxRecDepth 100000 in
set_option maxHeartbeats 16000000 in
theorem remove_leaf {w : World} {V : TV} {T : TD} {bt : Nat} (hbt : V.bT = bt) (h : TA w V T) (k i : Nat) (hf : T.fine k) (hl : (T.get k).kids = []) (hi : i < (T.get k).lines.length) (hfe : (T.put k { T.get k with lines := delL (T.get k).lines i }).fine k) :
    Calls Try.prog 36 #[.pointer (some ⟨bt, 0, none⟩), .int .i64 (k : Int), .int .i64 (i : Int)] w fun e w' => e = .returned (.string ((T.get k).lines.getD i ⟨#[]⟩)) ∧ TPost w V ((T.put k { T.get k with lines := delL (T.get k).lines i }).sum k) w' := by
  subst hbt
  have HH := Lib.hid h
  have hk := hf.lt
  obtain ⟨n, hn⟩ : ∃ n, (T.get k).lines.length = n := ⟨_, rfl⟩
  have hn1 : n ≤ 100 := by rw [← hn]; exact hf.lines
  have hiL := hi
  rw [hn] at hi
  obtain ⟨x, hx⟩ : ∃ x, (T.get k).lines.getD i ⟨#[]⟩ = x := ⟨_, rfl⟩
  rw [hx]
  have hgx : (T.get k).lines[i]? = some x := by rw [← hx, List.getD_eq_getElem?_getD, List.getElem?_eq_getElem hiL]; rfl
  obtain ⟨la, lc, el⟩ := (h.lin k hk).form
  obtain ⟨ka, kc, ek⟩ := (h.kid k hk).form
  rw [show (strsC (T.get k).lines).length = n by rw [← hn]; simp [strsC]] at el
  rw [show (natsC (T.get k).kids).length = 0 by rw [hl]; rfl] at ek
  have HR : Hid (Row w 9 (.slice la n lc) (strsC (T.get k).lines)) := Lib.hid (el ▸ h.lin k hk)
  have HV := Lib.hid el
  have kN := h.row
  have hcap := h.cap
  have hmax := h.max
  unfold maxLen at hmax
  have kT := h.blk
  unfold treeC TV.nv at kT
  have c0 := cell_of kT 0 (v := .slice (some ⟨V.gN, 0, none⟩) T.nodes.length V.cN) rfl
  have n0 : w.cell? ⟨V.gN, k * 3, none⟩ = some (.slice la n lc) := cell_of kN _ (by rw [← el]; exact (h.cel k hk).1)
  have n1 : w.cell? ⟨V.gN, k * 3 + 1, none⟩ = some (.slice ka 0 kc) := cell_of kN _ (by rw [← ek]; exact (h.cel k hk).2.1)
  obtain ⟨g, hg⟩ := HR.out.addr (by rw [strsC, List.length_map, hn]; omega)
  subst hg
  have e1 : w.cell? ⟨g, i, none⟩ = some (.string x) := by
    have := HR.out.cells0 i (.string x) (by rw [strsC, List.getElem?_map, hgx]; rfl)
    rwa [Nat.zero_add] at this
  have hoT : ¬ V.own (.L k) = some V.bT := fun e => by have := h.inj (.L k) .T V.bT e rfl; cases this
  have hoN : ¬ V.own (.L k) = some V.gN := fun e => by have := h.inj (.L k) .N V.gN e rfl; cases this
  have hk3 : k * 3 + 3 ≤ V.C.size := node_cells h hk
  have g0 : (((0 : Nat) : Int) == 0) = true := rfl
  have gi : IntKind.i64.wrap ((i : Int) + 1) = (i : Int) + 1 := IntWalk.i64_in _ (by omega)
  obtain ⟨T5, hT5⟩ : ∃ T5, T.put k { T.get k with lines := delL (T.get k).lines i } = T5 := ⟨_, rfl⟩
  rw [hT5] at hfe ⊢
  have HTE := Lib.hid hT5
  have HFE := Lib.hid hfe
  clear el ek hf hl hn hx hgx hT5 hfe h kT
  go_enter Try.func36, Try.ntmps36
  go_upto_region 4 with (first
    | (go_at_call 44; refine (leaf_any V.gN (k * 3) ka 0 kc n1).mono ?_; rintro e w9 ⟨rfl, rfl⟩))
  refine wp_region_seq (fun v => Upd (fun b => V.own (.L k) = some b) w v) (fun i => i != 19) [(0, true), (1, true), (2, true), (3, true), (4, true), (5, true), (6, true), (7, true), (8, true), (9, true), (10, true), (11, true), (12, true), (13, true), (14, true), (15, true), (16, false), (17, true), (18, true), (19, false)] (by exact rfl) (by kernel_rfl) (by intro c a d v w h; cases d <;> exact h) ?_
  have hS : Upd (fun b => V.own (.L k) = some b) w w.drew := (Upd.refl _ w).drew
  iterate 16 (((apply seq_val2 rfl (by rfl); (focus (intro w' hS'; have s0 := hS'.cell c0 hoT; have s1 := hS'.cell n0 hoN; go_simp; (first | done | exact rfl | (rw [if_pos (by omega)]; done)))); (focus exact hS))); (try simp only [Act.put, zzT, zzO, zzS]))
  apply seq_call2 (fun v w' => Row w' 9 v (strsC (delL (T.get k).lines i)) ∧ Upd (fun b => V.own (.L k) = some b) w w' ∧ Near w (V.lv k) v) rfl (by rfl)
  focus (go_simp; (first | done | exact rfl | exact ⟨rfl, rfl⟩))
  focus (refine (delS_any (HR.out.upd ((Upd.refl (fun _ => False) _).drew) (fun _ _ h => h)) i hiL).mono ?_; rintro e w' ⟨v', rfl, hr, hu, hn⟩; exact ⟨v', rfl, hr, hS.then hu (fun b _ e => by show (V.lv k).ownBlock = _; rw [HV.out]; exact e), fun b hb => (hn b hb).imp (fun e => by rw [HV.out]; exact e) (fun e => e)⟩)
  rintro v3 w3 ⟨hr3, hS3, hn3⟩; clear hS; have hS := hS3; clear hS3; obtain ⟨a3, n3, c3, e3⟩ : ∃ a n c, v3 = Value.slice a n c := (let ⟨a, c, e⟩ := hr3.form; ⟨a, _, c, e⟩); subst e3; have s33 := hS.cell n0 hoN; have f33 := free_of (hS.heap kN hoN) (k * 3); refine ⟨fun _ => hS, ?_⟩
  (try simp only [Act.put, zzT, zzO, zzS])
  iterate 2 (((apply seq_val2 rfl (by rfl); (focus (intro w' hS'; have s0 := hS'.cell c0 hoT; have s1 := hS'.cell n0 hoN; go_simp; (first | done | exact rfl | (rw [if_pos (by omega)]; done)))); (focus exact hS))); (try simp only [Act.put, zzT, zzO, zzS]))
  refine seq_loud2 rfl (fun K hK => ?_)
  go_simp; refine hK _ _ (fun e => by cases e) ?_; clear hK K
  (try simp only [Act.put, zzT, zzO, zzS])
  refine seq_nil ?_
  obtain ⟨hU8, hb8⟩ := cell_setc (i := k * 3) hS kN hoN (.slice a3 n3 c3)
  obtain ⟨w8, hw8⟩ : ∃ w8, w3.setCell ⟨V.gN, k * 3, none⟩ (.slice a3 n3 c3) = w8 := ⟨_, rfl⟩
  rw [hw8] at hU8 hb8 ⊢
  obtain ⟨V5, t5, f5, g5, p5⟩ := HH.out.lput hk (delL (T.get k).lines i) hS hr3 hn3 hU8 hb8
  rw [HTE.out] at t5
  have HT5 := Lib.hid t5
  have HF5 := Lib.hid f5
  have HB5 : Hid (V5.bT = V.bT) := Lib.hid f5.2.1
  clear t5 f5 g5 p5 hU8 hb8 hw8 hr3 hn3 hS s33 f33 c0 n0 n1 e1 kN
  go_wp2_with (first
    | (go_at_call 31; refine (sum_at HB5.out HT5.out HFE.out).mono ?_; rintro e w9 ⟨rfl, hm⟩; obtain ⟨V9, t9, f9⟩ := hm; have HT9 := Lib.hid t9; have HF9 := Lib.hid (HF5.out.trans f9); clear t9 f9))
  go_ret
  exact ⟨rfl, TPost.of HF9.out HT9.out⟩
set_option maxRecDepth 100000 in
set_option maxHeartbeats 16000000 in
theorem remove_node {w : World} {V : TV} {T : TD} {bt : Nat} (hbt : V.bT = bt) (h : TA w V T) (k i n r c : Nat) (hf : T.fine k) (hi : i ≤ 10000000) (hkk : (T.get k).kids ≠ []) (hfind : T.find (T.get k).kids 0 i = (n, r)) (hn : n < (T.get k).kids.length) (hc : (T.get k).kids.getD n 0 = c) (x : ByteArray) (s : TD)
    (IH : Calls Try.prog 36 #[.pointer (some ⟨V.bT, 0, none⟩), .int .i64 (c : Int), .int .i64 (r : Int)] w fun e w' => e = .returned (.string x) ∧ TPost w V s w') (hsm : SafeMend s k n) (hfe : (s.mend k n).fine k) :
    Calls Try.prog 36 #[.pointer (some ⟨bt, 0, none⟩), .int .i64 (k : Int), .int .i64 (i : Int)] w fun e w' => e = .returned (.string x) ∧ TPost w V ((s.mend k n).sum k) w' := by
  subst hbt
  have HH := Lib.hid h
  have hk := hf.lt
  obtain ⟨nk, hnk⟩ : ∃ m, (T.get k).kids.length = m := ⟨_, rfl⟩
  have hks : nk ≤ 100 := by rw [← hnk]; exact hf.kids
  obtain ⟨ka, kc, ek⟩ := (h.kid k hk).form
  rw [show (natsC (T.get k).kids).length = nk by rw [← hnk]; simp [natsC]] at ek
  have HR : Hid (Row w 3 (.slice ka nk kc) (natsC (T.get k).kids)) := Lib.hid (ek ▸ h.kid k hk)
  have n1 : w.cell? ⟨V.gN, k * 3 + 1, none⟩ = some (.slice ka nk kc) := cell_of h.row _ (by rw [← ek]; exact (h.cel k hk).2.1)
  have hcap := h.cap
  have hmax := h.max
  unfold maxLen at hmax
  have kT := h.blk
  unfold treeC TV.nv at kT
  have c0 := cell_of kT 0 (v := .slice (some ⟨V.gN, 0, none⟩) T.nodes.length V.cN) rfl
  have HF := Lib.hid hf
  obtain ⟨g, hg⟩ := HR.out.addr (by rw [natsC, List.length_map, hnk]; omega)
  subst hg
  have e1 : w.cell? ⟨g, n, none⟩ = some (.int .i64 (c : Int)) := by
    have := HR.out.cells0 n _ (get_at hn hc).1
    rwa [Nat.zero_add] at this
  rw [hnk] at hn
  have g0 : ((nk : Int) == 0) = false := beq_eq_false_iff_ne.2 (by omega)
  have HFI := Lib.hid hfind
  have HSM := Lib.hid hsm
  have HFE := Lib.hid hfe
  clear ek h hf kT hfind hc hkk hsm hfe hnk
  go_enter Try.func36, Try.ntmps36
  go_upto_region 7 with (first
    | (go_at_call 44; refine (leaf_any V.gN (k * 3) _ _ _ n1).mono ?_; rintro e w9 ⟨rfl, rfl⟩)
    | (go_at_call 46; refine (find_at rfl HH.out HF.out i hi).mono ?_; rintro e w9 ⟨rfl, rfl⟩; rw [HFI.out])
    | (go_at_call 36; refine IH.mono ?_; rintro e w1 ⟨rfl, hm⟩; have HM := Lib.hid hm; clear hm))
  obtain ⟨V1, t1, f1⟩ := HM.out.frm
  have HT1 := Lib.hid t1
  have HF1 := Lib.hid f1
  have HB1 : Hid (V1.bT = V.bT) := Lib.hid f1.2.1
  clear t1 f1 HM
  go_upto_region 8 with (first
    | (go_at_call 50; refine (mend_any HB1.out HT1.out HSM.out).mono ?_; rintro e w2 ⟨rfl, hm⟩; have HM := Lib.hid hm; clear hm))
  obtain ⟨V2, t2, f2⟩ := HM.out.frm
  have HT2 := Lib.hid t2
  have HF2 := Lib.hid (HF1.out.trans f2)
  have HB2 : Hid (V2.bT = V.bT) := Lib.hid HF2.out.2.1
  clear t2 f2 HM
  go_wp2_with (first
    | (go_at_call 31; refine (sum_at HB2.out HT2.out HFE.out).mono ?_; rintro e w9 ⟨rfl, hm⟩; obtain ⟨V9, t9, f9⟩ := hm; have HT9 := Lib.hid t9; have HF9 := Lib.hid (HF2.out.trans f9); clear t9 f9))
  go_ret
  exact ⟨rfl, TPost.of HF9.out HT9.out⟩
theorem remove_any : ∀ (f : Nat) (T : TD) (k i : Nat), SafeRem f T k i → i ≤ 10000000 → ∃ x t', TD.rem f T k i = some (x, t') ∧
    ∀ (w : World) (V : TV) (b : Nat), V.bT = b → TA w V T → Calls Try.prog 36 #[.pointer (some ⟨b, 0, none⟩), .int .i64 (k : Int), .int .i64 (i : Int)] w fun e w' => e = .returned (.string x) ∧ TPost w V t' w'
  | 0, _, _, _, hs, _ => hs.elim
  | f + 1, T, k, i, hs, hi => by
    obtain ⟨h1, h2, h3⟩ := hs
    by_cases hl : (T.get k).kids = []
    · obtain ⟨h4, h5⟩ := h2 hl
      exact ⟨_, _, by rw [TD.rem, if_pos hl], fun w V b hb h => remove_leaf hb h k i h1 hl h4 h5⟩
    · obtain ⟨h4, h5, h6⟩ := h3 hl
      have hle := find_le T (T.get k).kids 0 i
      obtain ⟨x, s, h7, h8⟩ := remove_any f T _ _ h5 (by omega)
      obtain ⟨a1, a2⟩ := h6 x s h7
      exact ⟨_, _, by rw [TD.rem, if_neg hl, h7], fun w V b hb h => remove_node hb h k i _ _ _ h1 hi hl rfl h4 rfl x s (h8 w V V.bT rfl h) a1 a2⟩
end Go.Proofs.Ytmklapbecdhnmaa
namespace Go.Proofs.Ytmklapbecdhnmaa
open Go.RowKit
theorem drop_at3 {w : World} {V : TV} {T : TD} {b : Nat} (hb : V.bT = b) (h : TA w V T) {k : Nat} (hk : k < T.nodes.length) (hL : T.load ≤ 10000000) :
    Calls Try.prog 37 #[.pointer (some ⟨b, 0, none⟩), .int .i64 (k : Int)] w fun e w' => e = .returned (.tuple #[]) ∧
      ∃ V', TA w' V' (T.drop k) ∧ Frm w V w' V' ∧ Upd (fun b => b = V.gN ∨ b = V.bT ∨ V.own .F = some b) w w' := by
  subst hb
  refine (drop_any h hk hL).mono ?_
  rintro e w' ⟨h1, fv', C', t, u, n⟩
  refine ⟨h1, _, t, ⟨u.mono (fun b _ e => ?_), rfl, fun s b hb => ?_⟩, u⟩
  · rcases e with e | e | e
    · exact ⟨.N, by rw [e]; rfl⟩
    · exact ⟨.T, by rw [e]; rfl⟩
    · exact ⟨.F, e⟩
  · rcases head_own hb with q | q
    · rw [TV.set_own] at q
      split at q
      · cases q
      · split at q
        · cases q
        · exact .inl ⟨s, q⟩
    · rcases n b q with g | g
      · exact .inl ⟨.F, g⟩
      · exact .inr g
theorem Delete_neg {w : World} {V : TV} {T : TD} (h : TA w V T) (i : Int) (hi : i < 0) :
    Calls Try.prog 21 #[.pointer (some ⟨V.bT, 0, none⟩), .int .i64 i] w fun e w' => e = .returned (.bool false) ∧ TPost w V T w' := by
  go_enter Try.func21, Try.ntmps21
  go_wp2
  go_ret
  exact ⟨rfl, TPost.refl h⟩
theorem Delete_high {w : World} {V : TV} {T : TD} (h : TA w V T) (hr : T.root < T.nodes.length) (i : Int) (hi : (T.len : Int) ≤ i) :
    Calls Try.prog 21 #[.pointer (some ⟨V.bT, 0, none⟩), .int .i64 i] w fun e w' => e = .returned (.bool false) ∧ TPost w V T w' := by
  have g1 : ¬ i < 0 := by omega
  go_enter Try.func21, Try.ntmps21
  go_wp2_with (first
    | (go_at_call 22; refine (len_any h hr).mono ?_; rintro e w1 ⟨rfl, hq1⟩))
  go_ret
  exact ⟨rfl, TPost.of (Frm.from_ V hq1) (h.upd (false_upd2 hq1) (fun _ _ _ e => e))⟩
set_option maxRecDepth 100000 in
set_option maxHeartbeats 16000000 in
theorem Delete_same {w : World} {V : TV} {T : TD} (h : TA w V T) (hr : T.root < T.nodes.length) (i : Nat) (hi : i < T.len) (x : ByteArray) (s : TD)
    (IH : ∀ w, TA w V T → Calls Try.prog 36 #[.pointer (some ⟨V.bT, 0, none⟩), .int .i64 (T.root : Int), .int .i64 (i : Int)] w fun e w' => e = .returned (.string x) ∧ TPost w V s w')
    (hsr : s.root = T.root) (hsb : s.bytes = T.bytes) (hb0 : 0 ≤ T.bytes - x.size) (hb1 : T.bytes < 9223372036854775808) (hrs : T.root < s.nodes.length) (hk100 : (s.get T.root).kids.length ≤ 100) (hsl : s.load + 1 ≤ 10000000) (hne : (s.get T.root).kids.length ≠ 1) :
    Calls Try.prog 21 #[.pointer (some ⟨V.bT, 0, none⟩), .int .i64 (i : Int)] w fun e w' => e = .returned (.bool true) ∧ TPost w V ({ s with root := T.root, bytes := T.bytes - x.size }) w' := by
  have HH := Lib.hid h
  have g1 : ¬ (i : Int) < 0 := by omega
  have g2 : ¬ (T.len : Int) ≤ (i : Int) := by omega
  have gw : IntKind.i64.wrap (T.bytes - (x.size : Int)) = T.bytes - x.size := IntWalk.i64_in _ (by omega)
  obtain ⟨nk, hnk⟩ : ∃ m, (s.get T.root).kids.length = m := ⟨_, rfl⟩
  have g3 : ((nk : Int) == 1) = false := beq_eq_false_iff_ne.2 (by omega)
  rw [hnk] at hk100
  have HNK := Lib.hid hnk
  have HIH := Lib.hid IH
  have HSR := Lib.hid hsr
  have HSB := Lib.hid hsb
  have HSL := Lib.hid hsl
  clear h IH hsr hsb hsl hnk hb0 hb1
  go_enter Try.func21, Try.ntmps21
  go_upto_region 3 with (first
    | (go_at_call 22; refine (len_any HH.out hr).mono ?_; rintro e w1 ⟨rfl, hq1⟩))
  obtain ⟨wd, hwd⟩ : ∃ wd, w1.drew = wd := ⟨_, rfl⟩
  have hqd : From w wd := by rw [← hwd]; exact From.call hq1 (Below.refl _ _).drew
  have H1 : Hid (TA wd V T) := Lib.hid (HH.out.upd (false_upd2 hqd) (fun _ _ _ e => e))
  have HF1 : Hid (Frm w V wd V) := Lib.hid (Frm.from_ V hqd)
  clear hq1 hqd
  refine wp_region_seq (fun v => v.cell? ⟨V.bT, 3, none⟩ = some (.int .i64 T.bytes) ∧ v.cell? ⟨V.bT, 2, none⟩ = some (.int .i64 (T.root : Int))) (fun i => i != 15) [(0, true), (1, true), (2, true), (3, true), (4, true), (5, true), (6, true), (7, true), (8, true), (9, true), (10, false), (11, true), (12, true), (13, true), (14, true), (15, false)] (by exact rfl) (by kernel_rfl) (by intro c a d v w h; cases d <;> exact h) ?_
  rw [hwd]; have hS : wd.cell? ⟨V.bT, 3, none⟩ = some (.int .i64 T.bytes) ∧ wd.cell? ⟨V.bT, 2, none⟩ = some (.int .i64 (T.root : Int)) := ⟨cell_of (H1.out.head_cells rfl) 3 rfl, cell_of (H1.out.head_cells rfl) 2 rfl⟩
  iterate 10 (((apply seq_val2 rfl (by rfl); (focus (intro w' hS'; have s0 := hS'.1; have s1 := hS'.2; go_simp; (first | done | exact rfl | (rw [if_pos (by omega)]; done)))); (focus exact hS))); (try simp only [Act.put, zzT, zzO, zzS]))
  apply seq_call2 (fun v w' => v = Value.string x ∧ TPost wd V s w') rfl (by rfl)
  focus (go_simp; (first | done | exact rfl | exact ⟨rfl, rfl⟩))
  focus (refine (HIH.out wd H1.out).mono ?_; rintro e w' ⟨h1, h2⟩; exact ⟨_, h1, rfl, h2⟩)
  rintro v3 w3 ⟨rfl, hm3⟩; obtain ⟨V3, t3, f3⟩ := hm3.frm; have hb3 := f3.2.1; have k3 := t3.head_cells hb3; rw [HSR.out, HSB.out] at k3; clear hS; have hS : w3.cell? ⟨V.bT, 3, none⟩ = some (.int .i64 T.bytes) ∧ w3.cell? ⟨V.bT, 2, none⟩ = some (.int .i64 (T.root : Int)) := ⟨cell_of k3 3 rfl, cell_of k3 2 rfl⟩; have s33 := hS.1; have f33 := free_of k3 3; refine ⟨fun _ => hS, ?_⟩
  (try simp only [Act.put, zzT, zzO, zzS])
  iterate 4 (((apply seq_val2 rfl (by rfl); (focus (intro w' hS'; have s0 := hS'.1; have s1 := hS'.2; go_simp; (first | done | exact rfl | (rw [if_pos (by omega)]; done)))); (focus exact hS))); (try simp only [Act.put, zzT, zzO, zzS]))
  refine seq_loud2 rfl (fun K hK => ?_)
  go_simp; refine hK _ _ (fun e => by cases e) ?_; clear hK K
  (try simp only [Act.put, zzT, zzO, zzS])
  refine seq_nil ?_
  obtain ⟨hU5, hb5⟩ := cell_setc (i := 3) (Upd.refl (fun _ => False) w3) k3 (fun h => h) (.int .i64 (T.bytes - x.size))
  obtain ⟨w5, hw5⟩ : ∃ w5, w3.setCell ⟨V.bT, 3, none⟩ (.int .i64 (T.bytes - x.size)) = w5 := ⟨_, rfl⟩
  rw [hw5] at hU5 hb5 ⊢
  obtain ⟨t5, f5⟩ := t3.top hb3 T.root (T.bytes - x.size) hU5 hb5
  have HT5 := Lib.hid t5
  have HF5 := Lib.hid ((HF1.out.trans f3).trans f5)
  have HB5 := Lib.hid hb3
  have c0 := cell_of (t5.head_cells hb3) 0 (v := .slice (some ⟨V3.gN, 0, none⟩) s.nodes.length V3.cN) rfl
  have c2 := cell_of (t5.head_cells hb3) 2 (v := .int .i64 (T.root : Int)) rfl
  have hcap := t5.cap
  have hmax := t5.max
  unfold maxLen at hmax
  change s.nodes.length ≤ V3.cN at hcap
  obtain ⟨ka, kc, ek⟩ := (t5.kid T.root hrs).form
  rw [show (natsC (TD.get { s with root := T.root, bytes := T.bytes - x.size } T.root).kids).length = nk from (by rw [natsC, List.length_map]; exact HNK.out)] at ek
  have HR5 : Hid (Row w5 3 (.slice ka nk kc) (natsC (s.get T.root).kids)) := Lib.hid (by have := t5.kid T.root hrs; rw [ek] at this; exact this)
  have HV5 := Lib.hid ek
  have n1 : w5.cell? ⟨V3.gN, T.root * 3 + 1, none⟩ = some (.slice ka nk kc) := cell_of t5.row _ (by rw [← ek]; exact (t5.cel T.root hrs).2.1)
  clear t3 f3 hb3 k3 t5 f5 hU5 hb5 hw5 hS s33 f33 hm3 ek
  go_upto_region 4 with fail
  first | (refine wq_region_from_still ?_) | (refine wq_region_from (by kernel_rfl) (by kernel_rfl) ?_)
  repeat
    first
      | ((refine WQ_skip (by rfl) ?_); (try simp only [Act.put, zzT, zzO, zzS]))
      | (apply WQ_val (by rfl); (focus (intro w' hC; (have e00 := From.cell hC c0; have e01 := From.cell hC c2; have e02 := From.cell hC n1); go_simp; (first | done | exact rfl | (rw [if_pos (by omega)]; done) | (exact str_idx (by omega))))); (try simp only [Act.put, zzT, zzO, zzS]))
      | (apply WQ_call (by rfl); (focus (intro w' hC; go_simp; (first | done | exact rfl | exact ⟨rfl, rfl⟩))); (focus (intro w' hC; first | fail)); (try simp only [Act.put, zzT, zzO, zzS]))
  refine WQ_nil ?_
  intro wq hq
  have HT6 : Hid (TA wq V3 { s with root := T.root, bytes := T.bytes - x.size }) := Lib.hid (HT5.out.upd (false_upd2 hq) (fun _ _ _ e => e))
  have HF6 := Lib.hid (HF5.out.trans (Frm.from_ V3 hq))
  have HR6 := Lib.hid (HR5.out.upd (false_upd2 hq) (fun _ _ e => e))
  have d2 := From.cell hq c2
  clear hq c0 c2 n1
  go_wp2
  go_ret
  exact ⟨rfl, TPost.of HF6.out HT6.out⟩
set_option maxRecDepth 100000 in
set_option maxHeartbeats 16000000 in
theorem Delete_low {w : World} {V : TV} {T : TD} (h : TA w V T) (hr : T.root < T.nodes.length) (i : Nat) (hi : i < T.len) (x : ByteArray) (s : TD)
    (IH : ∀ w, TA w V T → Calls Try.prog 36 #[.pointer (some ⟨V.bT, 0, none⟩), .int .i64 (T.root : Int), .int .i64 (i : Int)] w fun e w' => e = .returned (.string x) ∧ TPost w V s w')
    (hsr : s.root = T.root) (hsb : s.bytes = T.bytes) (hb0 : 0 ≤ T.bytes - x.size) (hb1 : T.bytes < 9223372036854775808) (hrs : T.root < s.nodes.length) (hk100 : (s.get T.root).kids.length ≤ 100) (hsl : s.load + 1 ≤ 10000000) (j : Nat) (hkj : (s.get T.root).kids = [j]) :
    Calls Try.prog 21 #[.pointer (some ⟨V.bT, 0, none⟩), .int .i64 (i : Int)] w fun e w' => e = .returned (.bool true) ∧ TPost w V ({ TD.drop { s with root := T.root, bytes := T.bytes - x.size } T.root with root := j, bytes := T.bytes - x.size }) w' := by
  have HH := Lib.hid h
  have g1 : ¬ (i : Int) < 0 := by omega
  have g2 : ¬ (T.len : Int) ≤ (i : Int) := by omega
  have gw : IntKind.i64.wrap (T.bytes - (x.size : Int)) = T.bytes - x.size := IntWalk.i64_in _ (by omega)
  obtain ⟨nk, hnk⟩ : ∃ m, (s.get T.root).kids.length = m := ⟨_, rfl⟩
  obtain rfl : nk = 1 := by rw [← hnk, hkj]; rfl
  have HKJ := Lib.hid hkj
  clear hkj
  rw [hnk] at hk100
  have HNK := Lib.hid hnk
  have HIH := Lib.hid IH
  have HSR := Lib.hid hsr
  have HSB := Lib.hid hsb
  have HSL := Lib.hid hsl
  clear h IH hsr hsb hsl hnk hb0 hb1
  go_enter Try.func21, Try.ntmps21
  go_upto_region 3 with (first
    | (go_at_call 22; refine (len_any HH.out hr).mono ?_; rintro e w1 ⟨rfl, hq1⟩))
  obtain ⟨wd, hwd⟩ : ∃ wd, w1.drew = wd := ⟨_, rfl⟩
  have hqd : From w wd := by rw [← hwd]; exact From.call hq1 (Below.refl _ _).drew
  have H1 : Hid (TA wd V T) := Lib.hid (HH.out.upd (false_upd2 hqd) (fun _ _ _ e => e))
  have HF1 : Hid (Frm w V wd V) := Lib.hid (Frm.from_ V hqd)
  clear hq1 hqd
  refine wp_region_seq (fun v => v.cell? ⟨V.bT, 3, none⟩ = some (.int .i64 T.bytes) ∧ v.cell? ⟨V.bT, 2, none⟩ = some (.int .i64 (T.root : Int))) (fun i => i != 15) [(0, true), (1, true), (2, true), (3, true), (4, true), (5, true), (6, true), (7, true), (8, true), (9, true), (10, false), (11, true), (12, true), (13, true), (14, true), (15, false)] (by exact rfl) (by kernel_rfl) (by intro c a d v w h; cases d <;> exact h) ?_
  rw [hwd]; have hS : wd.cell? ⟨V.bT, 3, none⟩ = some (.int .i64 T.bytes) ∧ wd.cell? ⟨V.bT, 2, none⟩ = some (.int .i64 (T.root : Int)) := ⟨cell_of (H1.out.head_cells rfl) 3 rfl, cell_of (H1.out.head_cells rfl) 2 rfl⟩
  iterate 10 (((apply seq_val2 rfl (by rfl); (focus (intro w' hS'; have s0 := hS'.1; have s1 := hS'.2; go_simp; (first | done | exact rfl | (rw [if_pos (by omega)]; done)))); (focus exact hS))); (try simp only [Act.put, zzT, zzO, zzS]))
  apply seq_call2 (fun v w' => v = Value.string x ∧ TPost wd V s w') rfl (by rfl)
  focus (go_simp; (first | done | exact rfl | exact ⟨rfl, rfl⟩))
  focus (refine (HIH.out wd H1.out).mono ?_; rintro e w' ⟨h1, h2⟩; exact ⟨_, h1, rfl, h2⟩)
  rintro v3 w3 ⟨rfl, hm3⟩; obtain ⟨V3, t3, f3⟩ := hm3.frm; have hb3 := f3.2.1; have k3 := t3.head_cells hb3; rw [HSR.out, HSB.out] at k3; clear hS; have hS : w3.cell? ⟨V.bT, 3, none⟩ = some (.int .i64 T.bytes) ∧ w3.cell? ⟨V.bT, 2, none⟩ = some (.int .i64 (T.root : Int)) := ⟨cell_of k3 3 rfl, cell_of k3 2 rfl⟩; have s33 := hS.1; have f33 := free_of k3 3; refine ⟨fun _ => hS, ?_⟩
  (try simp only [Act.put, zzT, zzO, zzS])
  iterate 4 (((apply seq_val2 rfl (by rfl); (focus (intro w' hS'; have s0 := hS'.1; have s1 := hS'.2; go_simp; (first | done | exact rfl | (rw [if_pos (by omega)]; done)))); (focus exact hS))); (try simp only [Act.put, zzT, zzO, zzS]))
  refine seq_loud2 rfl (fun K hK => ?_)
  go_simp; refine hK _ _ (fun e => by cases e) ?_; clear hK K
  (try simp only [Act.put, zzT, zzO, zzS])
  refine seq_nil ?_
  obtain ⟨hU5, hb5⟩ := cell_setc (i := 3) (Upd.refl (fun _ => False) w3) k3 (fun h => h) (.int .i64 (T.bytes - x.size))
  obtain ⟨w5, hw5⟩ : ∃ w5, w3.setCell ⟨V.bT, 3, none⟩ (.int .i64 (T.bytes - x.size)) = w5 := ⟨_, rfl⟩
  rw [hw5] at hU5 hb5 ⊢
  obtain ⟨t5, f5⟩ := t3.top hb3 T.root (T.bytes - x.size) hU5 hb5
  have HT5 := Lib.hid t5
  have HF5 := Lib.hid ((HF1.out.trans f3).trans f5)
  have HB5 := Lib.hid hb3
  have c0 := cell_of (t5.head_cells hb3) 0 (v := .slice (some ⟨V3.gN, 0, none⟩) s.nodes.length V3.cN) rfl
  have c2 := cell_of (t5.head_cells hb3) 2 (v := .int .i64 (T.root : Int)) rfl
  have hcap := t5.cap
  have hmax := t5.max
  unfold maxLen at hmax
  change s.nodes.length ≤ V3.cN at hcap
  obtain ⟨ka, kc, ek⟩ := (t5.kid T.root hrs).form
  rw [show (natsC (TD.get { s with root := T.root, bytes := T.bytes - x.size } T.root).kids).length = 1 from (by rw [natsC, List.length_map]; exact HNK.out)] at ek
  have HR5 : Hid (Row w5 3 (.slice ka 1 kc) (natsC (s.get T.root).kids)) := Lib.hid (by have := t5.kid T.root hrs; rw [ek] at this; exact this)
  have HV5 := Lib.hid ek
  have n1 : w5.cell? ⟨V3.gN, T.root * 3 + 1, none⟩ = some (.slice ka 1 kc) := cell_of t5.row _ (by rw [← ek]; exact (t5.cel T.root hrs).2.1)
  clear t3 f3 hb3 k3 t5 f5 hU5 hb5 hw5 hS s33 f33 hm3 ek
  go_upto_region 4 with fail
  first | (refine wq_region_from_still ?_) | (refine wq_region_from (by kernel_rfl) (by kernel_rfl) ?_)
  repeat
    first
      | ((refine WQ_skip (by rfl) ?_); (try simp only [Act.put, zzT, zzO, zzS]))
      | (apply WQ_val (by rfl); (focus (intro w' hC; (have e00 := From.cell hC c0; have e01 := From.cell hC c2; have e02 := From.cell hC n1); go_simp; (first | done | exact rfl | (rw [if_pos (by omega)]; done) | (exact str_idx (by omega))))); (try simp only [Act.put, zzT, zzO, zzS]))
      | (apply WQ_call (by rfl); (focus (intro w' hC; go_simp; (first | done | exact rfl | exact ⟨rfl, rfl⟩))); (focus (intro w' hC; first | fail)); (try simp only [Act.put, zzT, zzO, zzS]))
  refine WQ_nil ?_
  intro wq hq
  have HT6 : Hid (TA wq V3 { s with root := T.root, bytes := T.bytes - x.size }) := Lib.hid (HT5.out.upd (false_upd2 hq) (fun _ _ _ e => e))
  have HF6 := Lib.hid (HF5.out.trans (Frm.from_ V3 hq))
  have HR6 := Lib.hid (HR5.out.upd (false_upd2 hq) (fun _ _ e => e))
  have d2 := From.cell hq c2
  clear hq c0 c2 n1
  obtain ⟨g, hg⟩ := HR6.out.addr (by rw [natsC, List.length_map, HNK.out]; omega)
  subst hg
  have hog : V3.own (.K T.root) = some g := by show (V3.kv T.root).ownBlock = _; rw [HV5.out]; rfl
  have e1 : wq.cell? ⟨g, 0, none⟩ = some (.int .i64 (j : Int)) := by
    have := HR6.out.cells0 0 (natV j) (by rw [HKJ.out]; rfl)
    exact this
  have HL6 : Hid (TD.load { s with root := T.root, bytes := T.bytes - x.size } ≤ 10000000) := Lib.hid (by show s.load ≤ _; have := HSL.out; omega)
  go_upto_region 7 with (first
    | (go_at_call 37; refine (drop_at3 HB5.out HT6.out hrs HL6.out).mono ?_; rintro e w7 ⟨rfl, hm⟩; have HM := Lib.hid hm; clear hm))
  obtain ⟨V7, t7, f7, u7⟩ := HM.out
  have HT7 := Lib.hid t7
  have HF7 := Lib.hid (HF6.out.trans f7)
  have HB7 : Hid (V7.bT = V.bT) := Lib.hid (f7.2.1.trans HB5.out)
  have e7 : w7.cell? ⟨g, 0, none⟩ = some (.int .i64 (j : Int)) := Upd.cell u7 e1 (fun e => by
    rcases e with e | e | e
    · have := HT6.out.inj (.K T.root) .N g hog (congrArg some e.symm); cases this
    · have := HT6.out.inj (.K T.root) .T g hog (congrArg some e.symm); cases this
    · have := HT6.out.inj (.K T.root) .F g hog e; cases this)
  have k7 := t7.head_cells HB7.out
  clear HM t7 f7 u7 e1 d2
  go_wp2_with (first
    | ((with_reducible refine stopSt 3 _ _ rfl ?_); unfold Stop; refine wpList_store_blk rfl 3 _ _ rfl V.bT 2 rfl (.int .i64 (j : Int)) rfl _ (#[_, _, .int .i64 (j : Int), .int .i64 (T.bytes - x.size)]) _ k7 (zzB rfl) (by kernel_rfl) rfl rfl ?_; intro w8 k8 hu8 hs8))
  go_ret
  obtain ⟨t8, f8⟩ := HT7.out.top HB7.out j (T.bytes - x.size) hu8 k8
  exact ⟨rfl, TPost.of (HF7.out.trans f8) t8⟩
theorem low_one {t : TD} {j : Nat} (h : (t.get t.root).kids = [j]) : t.low = { t.drop t.root with root := j } := by
  unfold TD.low
  rw [h]
theorem low_else {t : TD} (h : (t.get t.root).kids.length ≠ 1) : t.low = t := by
  unfold TD.low
  split
  next j e => rw [e] at h; simp at h
  next => rfl
/-- Delete, whole. -/
theorem Delete_any {w : World} {V : TV} {T : TD} {h : Nat} {ls : List ByteArray} (ha : TA w V T) (v : Inv T h ls) (hL : T.load + (h + 2) ≤ 10000000) (hN : ls.length ≤ 1000000) (hB : sizes ls < 9223372036854775808) (i : Int) :
    ∃ T' h', Calls Try.prog 21 #[.pointer (some ⟨V.bT, 0, none⟩), .int .i64 i] w (fun e w' => e = .returned (.bool (decide (0 ≤ i ∧ i < (ls.length : Int)))) ∧ TPost w V T' w') ∧ Inv T' h' (if 0 ≤ i ∧ i < (ls.length : Int) then delL ls i.toNat else ls) ∧ T'.load ≤ T.load + (h + 2) := by
  have hr := v.rep_lt
  by_cases hg : i < 0 ∨ (ls.length : Int) ≤ i
  · rw [if_neg (by omega), decide_eq_false (by omega)]
    refine ⟨T, h, ?_, v, by omega⟩
    rcases Int.lt_or_le i 0 with hi | hi
    · exact Delete_neg ha i hi
    · exact Delete_high ha hr i (by rw [v.len]; omega)
  · rw [if_pos (by omega), decide_eq_true (by omega)]
    obtain ⟨h1, h2, t', h', h3, h4, h5⟩ := (delete_inv v hL hN i).2 hg
    refine ⟨t', h', ?_, h4, h5⟩
    obtain ⟨n, rfl⟩ : ∃ n : Nat, i = (n : Int) := ⟨i.toNat, by omega⟩
    rw [Int.toNat_natCast] at h1 h2
    obtain ⟨x, s, h6, h7⟩ := remove_any _ _ _ _ h1 (by omega)
    obtain ⟨a1, a2, a3, a4, a5, a6⟩ := h2 x s h6
    have hb := v.bytes
    have h0 : 0 ≤ sizes (delL ls n) := sizes_nonneg _
    rw [sizes_del ls n (by omega), ← a3] at h0
    have e : t' = TD.low { s with bytes := s.bytes - x.size } := by
      unfold TD.delete at h3
      rw [v.len, if_neg hg, Int.toNat_natCast, h6] at h3
      injection h3 with h3
      injection h3 with _ h3
      exact h3.symm
    have e2 : ({ s with bytes := s.bytes - x.size } : TD) = { s with root := T.root, bytes := T.bytes - x.size } := by rw [← a1, ← a2]
    rw [e, e2]
    rw [a1] at a4 a5
    have hlen : n < T.len := by rw [v.len]; omega
    by_cases hk : (s.get T.root).kids.length = 1
    · obtain ⟨j, hj⟩ := List.length_eq_one_iff.1 hk
      rw [low_one (t := { s with root := T.root, bytes := T.bytes - x.size }) hj]
      exact Delete_low ha hr n hlen x s (fun w hw => h7 w V _ rfl hw) a1 a2 (by omega) (by omega) a4 a5 a6 j hj
    · rw [low_else (t := { s with root := T.root, bytes := T.bytes - x.size }) hk]
      exact Delete_same ha hr n hlen x s (fun w hw => h7 w V _ rfl hw) a1 a2 (by omega) (by omega) a4 a5 a6 hk
end Go.Proofs.Ytmklapbecdhnmaa
namespace Go.Proofs.Ytmklapbecdhnmaa
open Go.RowKit
theorem Get_neg {w : World} {V : TV} (i : Int) (hi : i < 0) :
    Calls Try.prog 19 #[.pointer (some ⟨V.bT, 0, none⟩), .int .i64 i] w fun e w' => e = .returned (.tuple #[.string ⟨#[]⟩, .bool false]) ∧ From w w' := by
  go_enter Try.func19, Try.ntmps19
  go_wp2
  go_ret2
  exact ⟨rfl, From.refl _⟩
theorem Get_high {w : World} {V : TV} {T : TD} (h : TA w V T) (hr : T.root < T.nodes.length) (i : Int) (hi : (T.len : Int) ≤ i) :
    Calls Try.prog 19 #[.pointer (some ⟨V.bT, 0, none⟩), .int .i64 i] w fun e w' => e = .returned (.tuple #[.string ⟨#[]⟩, .bool false]) ∧ From w w' := by
  have g1 : ¬ i < 0 := by omega
  go_enter Try.func19, Try.ntmps19
  go_wp2_with (first
    | (go_at_call 22; refine (len_any h hr).mono ?_; rintro e w1 ⟨rfl, hq1⟩))
  go_ret2
  exact ⟨rfl, hq1⟩
set_option maxRecDepth 100000 in
set_option maxHeartbeats 4000000 in
theorem Get_in {w : World} {V : TV} {T : TD} (h : TA w V T) (hr : T.root < T.nodes.length) (i : Nat) (hi : i < T.len) (hi2 : i ≤ 10000000) (f j m : Nat) (hs : SafeAt T f T.root i) (ha : T.at f T.root i = some (j, m)) (hf : T.fine j) (hm : m < (T.get j).lines.length) (x : ByteArray) (hx : (T.get j).lines.getD m ⟨#[]⟩ = x) :
    Calls Try.prog 19 #[.pointer (some ⟨V.bT, 0, none⟩), .int .i64 (i : Int)] w fun e w' => e = .returned (.tuple #[.string x, .bool true]) ∧ From w w' := by
  have HH := Lib.hid h
  have g1 : ¬ (i : Int) < 0 := by omega
  have g2 : ¬ (T.len : Int) ≤ (i : Int) := by omega
  have HS := Lib.hid hs
  have HA := Lib.hid ha
  have hj := hf.lt
  obtain ⟨n, hn⟩ : ∃ n, (T.get j).lines.length = n := ⟨_, rfl⟩
  have hn1 : n ≤ 100 := by rw [← hn]; exact hf.lines
  have HGX : Hid ((T.get j).lines[m]? = some x) := Lib.hid (by rw [← hx, List.getD_eq_getElem?_getD, List.getElem?_eq_getElem hm]; rfl)
  rw [hn] at hm
  have HN := Lib.hid hn
  clear hs ha hf hx hn h
  go_enter Try.func19, Try.ntmps19
  go_upto_region 3 with (first
    | (go_at_call 22; refine (len_any HH.out hr).mono ?_; rintro e w1 ⟨rfl, hq1⟩))
  have H1 : Hid (TA w1 V T) := Lib.hid (HH.out.upd (false_upd2 hq1) (fun _ _ _ e => e))
  have HQ := Lib.hid hq1
  clear hq1
  obtain ⟨la, lc, el⟩ := (H1.out.lin j hj).form
  rw [show (strsC (T.get j).lines).length = n by rw [← HN.out]; simp [strsC]] at el
  have HR : Hid (Row w1 9 (.slice la n lc) (strsC (T.get j).lines)) := Lib.hid (el ▸ H1.out.lin j hj)
  have n0 : w1.cell? ⟨V.gN, j * 3, none⟩ = some (.slice la n lc) := cell_of H1.out.row _ (by rw [← el]; exact (H1.out.cel j hj).1)
  obtain ⟨g, hg⟩ := HR.out.addr (by rw [strsC, List.length_map, HN.out]; omega)
  subst hg
  have e1 : w1.cell? ⟨g, m, none⟩ = some (.string x) := by
    have := HR.out.cells0 m (.string x) (by rw [strsC, List.getElem?_map, HGX.out]; rfl)
    rwa [Nat.zero_add] at this
  have c0 := cell_of (H1.out.head_cells rfl) 0 (v := .slice (some ⟨V.gN, 0, none⟩) T.nodes.length V.cN) rfl
  have hcap := H1.out.cap
  have hmax := H1.out.max
  unfold maxLen at hmax
  clear el
  go_wp2_with (first
    | (go_at_call 35; refine (at_any H1.out f i j m HS.out HA.out hi2).mono ?_; rintro e w9 ⟨rfl, rfl⟩))
  go_ret2
  exact ⟨rfl, HQ.out⟩
/-- Get, whole. -/
theorem Get_any {w : World} {V : TV} {T : TD} {h : Nat} {ls : List ByteArray} (ha : TA w V T) (v : Inv T h ls) (hL : T.load ≤ 10000000) (hN : ls.length ≤ 1000000) (i : Int) :
    Calls Try.prog 19 #[.pointer (some ⟨V.bT, 0, none⟩), .int .i64 i] w fun e w' => e = .returned (.tuple #[.string (if 0 ≤ i ∧ i < (ls.length : Int) then ls.getD i.toNat ⟨#[]⟩ else ⟨#[]⟩), .bool (decide (0 ≤ i ∧ i < (ls.length : Int)))]) ∧ From w w' := by
  have hr := v.rep_lt
  by_cases hg : i < 0 ∨ (ls.length : Int) ≤ i
  · rw [if_neg (by omega), decide_eq_false (by omega)]
    rcases Int.lt_or_le i 0 with hi | hi
    · exact Get_neg i hi
    · exact Get_high ha hr i (by rw [v.len]; omega)
  · rw [if_pos (by omega), decide_eq_true (by omega)]
    obtain ⟨n, rfl⟩ : ∃ n : Nat, i = (n : Int) := ⟨i.toNat, by omega⟩
    rw [Int.toNat_natCast]
    obtain ⟨a1, j, m, a2, a3, a4, a5, _⟩ := at_inv v hL hN n (by omega)
    exact Get_in ha hr n (by rw [v.len]; omega) (by omega) _ j m a1 a2 a3 a4 _ a5
end Go.Proofs.Ytmklapbecdhnmaa
