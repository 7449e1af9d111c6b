/- Lemmas that the law's proof stands on, part 14: Twm, Twp. No condition. -/
import Derived.Test.YtmklapbecdhnmaaBaseA0
import Derived.Test.YtmklapbecdhnmaaBaseA13
set_option linter.all false
set_option linter.unusedVariables false
set_option linter.unusedSimpArgs false
namespace Go.Proofs.Ytmklapbecdhnmaa
open Go.RowKit
theorem get_at {T : TD} {k n c : Nat} (h : n < (T.get k).kids.length) (hc : (T.get k).kids.getD n 0 = c) : (natsC (T.get k).kids)[n]? = some (.int .i64 (c : Int)) ∧ c ∈ (T.get k).kids := by
  rw [List.getD_eq_getElem?_getD, List.getElem?_eq_getElem h] at hc
  refine ⟨by rw [natsC, List.getElem?_map, List.getElem?_eq_getElem h, ← hc]; rfl, by rw [← hc]; exact List.getElem_mem h⟩
theorem merged_of {T : TD} {k n a b : Nat} (ha : (T.get k).kids.getD n 0 = a) (hb : (T.get k).kids.getD (n + 1) 0 = b) :
    T.merged k n = ((T.put a { T.get a with lines := (T.get a).lines ++ (T.get b).lines, kids := (T.get a).kids ++ (T.get b).kids }).drop b).put k { T.get k with kids := delL (T.get k).kids (n + 1) } := by
  unfold TD.merged
  rw [ha, hb]
set_option maxRecDepth 100000 in
set_option maxHeartbeats 16000000 in
theorem merge_any {w : World} {V : TV} {T : TD} {bt : Nat} (hbt : V.bT = bt) (h : TA w V T) {k n : Nat} (hs : SafeMerge T k n) :
    Calls Try.prog 61 #[.pointer (some ⟨bt, 0, none⟩), .int .i64 (k : Int), .int .i64 (n : Int)] w fun e w' => e = .returned (.tuple #[]) ∧ TPost w V (T.merge k n) w' := by
  subst hbt
  obtain ⟨fk, hn1, fa, fb, hab, fm⟩ := hs
  have HH := Lib.hid h
  obtain ⟨a, hga⟩ : ∃ a, (T.get k).kids.getD n 0 = a := ⟨_, rfl⟩
  obtain ⟨b, hgb⟩ : ∃ b, (T.get k).kids.getD (n + 1) 0 = b := ⟨_, rfl⟩
  have hme : T.merge k n = (T.merged k n).sum a := by unfold TD.merge; rw [hga]
  rw [hme]
  rw [merged_of hga hgb] at fm ⊢
  rw [hga] at fa fm hab
  rw [hgb] at fb hab
  obtain ⟨ea, ma⟩ := get_at (by omega) hga
  obtain ⟨eb, mb⟩ := get_at hn1 hgb
  have ha := fa.lt
  have hb := fb.lt
  have hk := fk.lt
  have hak : a ≠ k := (fk.each a ma).2
  have hbk : b ≠ k := (fk.each b mb).2
  have hnk1 : (T.get k).kids.length ≤ 100 := fk.kids
  have hla1 : (T.get a).lines.length ≤ 100 := fa.lines
  have hlb1 : (T.get b).lines.length ≤ 100 := fb.lines
  have hka1 : (T.get a).kids.length ≤ 100 := fa.kids
  have hkb1 : (T.get b).kids.length ≤ 100 := fb.kids
  have HLD : Hid (T.load ≤ 10000000) := Lib.hid fk.load
  obtain ⟨nk, hnk⟩ : ∃ m, (T.get k).kids.length = m := ⟨_, rfl⟩
  obtain ⟨n1, hn⟩ : ∃ m, n + 1 = m := ⟨_, rfl⟩
  rw [hn] at fm hn1 eb ⊢
  rw [hnk] at hn1 hnk1
  have gn0 : n < nk := by omega
  have gn1 : IntKind.i64.wrap ((n : Int) + 1) = (n1 : Int) := by rw [show (n : Int) + 1 = (n1 : Int) by omega]; exact IntWalk.i64_in _ (by omega)
  have gn2 : IntKind.i64.wrap ((n : Int) + 2) = (n1 : Int) + 1 := by rw [show (n : Int) + 2 = (n1 : Int) + 1 by omega]; exact IntWalk.i64_in _ (by omega)
  obtain ⟨T6, hT6⟩ : ∃ T6, T.put a { T.get a with lines := (T.get a).lines ++ (T.get b).lines, kids := (T.get a).kids ++ (T.get b).kids } = T6 := ⟨_, rfl⟩
  rw [hT6] at fm ⊢
  have HFM := Lib.hid fm
  have hb6' : b < T6.nodes.length := by rw [← hT6, put_len]; exact hb
  have HL6 : Hid (T6.load ≤ 10000000) := Lib.hid (by rw [← hT6, load_put]; exact HLD.out)
  have HK6 : Hid (k < T6.nodes.length ∧ T6.get k = T.get k) := Lib.hid ⟨by rw [← hT6, put_len]; exact hk, by rw [← hT6, get_put T _ ha, if_neg (fun e => hak e.symm)]⟩
  have HTE6 := Lib.hid hT6
  have HEA := Lib.hid ea
  have HEB := Lib.hid eb
  have HNK := Lib.hid hnk
  have qla : (strsC (T.get a).lines).length = (T.get a).lines.length := by simp [strsC]
  have qlb : (strsC (T.get b).lines).length = (T.get b).lines.length := by simp [strsC]
  have qka : (natsC (T.get a).kids).length = (T.get a).kids.length := by simp [natsC]
  have qkb : (natsC (T.get b).kids).length = (T.get b).kids.length := by simp [natsC]
  have QLA := Lib.hid qla
  have QLB := Lib.hid qlb
  have QKA := Lib.hid qka
  have QKB := Lib.hid qkb
  have kT := h.blk
  unfold treeC TV.nv at kT
  have hcap := h.cap
  have hmax := h.max
  unfold maxLen at hmax
  have c0 := cell_of kT 0 (v := .slice (some ⟨V.gN, 0, none⟩) T.nodes.length V.cN) rfl
  obtain ⟨i0, hi, hz0, hz3, hz4⟩ := info_parts info_str1
  obtain ⟨i1, hj, hy0, hy3, hy4⟩ := info_parts info_int1
  obtain ⟨kv, kc, ek⟩ := (h.kid k hk).form
  rw [show (natsC (T.get k).kids).length = nk by rw [← HNK.out]; simp [natsC]] at ek
  have HRK : Hid (Row w 3 (.slice kv nk kc) (natsC (T.get k).kids)) := Lib.hid (ek ▸ h.kid k hk)
  have HVK := Lib.hid ek
  have nk1 : w.cell? ⟨V.gN, k * 3 + 1, none⟩ = some (.slice kv nk kc) := cell_of h.row _ (by rw [← ek]; exact (h.cel k hk).2.1)
  obtain ⟨g, hg⟩ := HRK.out.addr (by rw [natsC, List.length_map, HNK.out]; omega)
  subst hg
  have e1 : w.cell? ⟨g, n, none⟩ = some (.int .i64 (a : Int)) := by
    have := HRK.out.cells0 n _ HEA.out
    rwa [Nat.zero_add] at this
  have e2 : w.cell? ⟨g, n1, none⟩ = some (.int .i64 (b : Int)) := by
    have := HRK.out.cells0 n1 _ HEB.out
    rwa [Nat.zero_add] at this
  clear hT6 fa fb fk fm ea eb ma mb hga hgb hme h kT ek hnk hn qla qlb qka qkb
  go_enter Try.func61, Try.ntmps61
  go_upto_region 1 with fail
  first | (refine wq_region_from_still ?_) | (refine wq_region_from (by kernel_rfl) (by kernel_rfl) ?_)
  repeat
    first
      | ((refine WQ_skip (by rfl) ?_); (try simp only [Act.put, zzT, zzO, zzS]))
      | (apply WQ_val (by rfl); (focus (intro w' hC; (have e01 := From.cell hC e1; have e02 := From.cell hC e2); go_simp; (first | done | exact rfl | (rw [if_pos (by omega)]; done) | (exact str_idx (by omega))))); (try simp only [Act.put, zzT, zzO, zzS]))
      | (apply WQ_call (by rfl); (focus (intro w' hC; go_simp; (first | done | exact rfl | exact ⟨rfl, rfl⟩))); (focus (intro w' hC; first | fail)); (try simp only [Act.put, zzT, zzO, zzS]))
  refine WQ_nil ?_
  intro wq hq
  have H0 : Hid (TA wq V T) := Lib.hid (HH.out.upd (false_upd2 hq) (fun _ _ _ e => e))
  have HQ0 : Hid (Frm w V wq V) := Lib.hid (Frm.from_ V hq)
  have HU0 := Lib.hid (false_upd2 hq)
  obtain ⟨w1, hw1⟩ : ∃ w1, wq = w1 := ⟨_, rfl⟩
  subst hw1
  have d0 : wq.cell? ⟨V.bT, 0, none⟩ = some (.slice (some ⟨V.gN, 0, none⟩) T.nodes.length V.cN) := cell_of (H0.out.head_cells rfl) 0 rfl
  clear hq c0 nk1 e1 e2
  go_upto_region 2 with fail
  first | (refine wq_region_from_still ?_) | (refine wq_region_from (by kernel_rfl) (by kernel_rfl) ?_)
  repeat
    first
      | ((refine WQ_skip (by rfl) ?_); (try simp only [Act.put, zzT, zzO, zzS]))
      | (apply WQ_val (by rfl); (focus (intro w' hC; (have e01 := From.cell hC d0); go_simp; (first | done | exact rfl | (rw [if_pos (by omega)]; done) | (exact str_idx (by omega))))); (try simp only [Act.put, zzT, zzO, zzS]))
      | (apply WQ_call (by rfl); (focus (intro w' hC; go_simp; (first | done | exact rfl | exact ⟨rfl, rfl⟩))); (focus (intro w' hC; first | fail)); (try simp only [Act.put, zzT, zzO, zzS]))
  refine WQ_nil ?_
  intro wq hq
  have H1 : Hid (TA wq V T) := Lib.hid (H0.out.upd (false_upd2 hq) (fun _ _ _ e => e))
  have HQ1 : Hid (Frm w V wq V) := Lib.hid (HQ0.out.trans (Frm.from_ V hq))
  clear hq d0
  obtain ⟨ava, avc, eva⟩ := (H1.out.lin a ha).form
  obtain ⟨bva, bvc, evb⟩ := (H1.out.lin b hb).form
  rw [QLA.out] at eva
  rw [QLB.out] at evb
  have HRA : Hid (Row wq 9 (.slice ava (T.get a).lines.length avc) (strsC (T.get a).lines)) := Lib.hid (eva ▸ H1.out.lin a ha)
  have HRB : Hid (Row wq 9 (.slice bva (T.get b).lines.length bvc) (strsC (T.get b).lines)) := Lib.hid (evb ▸ H1.out.lin b hb)
  have HVA := Lib.hid eva
  have HVB := Lib.hid evb
  have kN := H1.out.row
  have na : wq.cell? ⟨V.gN, a * 3, none⟩ = some (.slice ava (T.get a).lines.length avc) := cell_of kN _ (by rw [← HVA.out]; exact (H1.out.cel a ha).1)
  have nb : wq.cell? ⟨V.gN, b * 3, none⟩ = some (.slice bva (T.get b).lines.length bvc) := cell_of kN _ (by rw [← HVB.out]; exact (H1.out.cel b hb).1)
  have hoN : ¬ V.own (.L a) = some V.gN := fun e => by have := H1.out.inj (.L a) .N V.gN e rfl; cases this
  clear eva evb
  go_upto_region 3 with fail
  refine wp_region_seq (fun v => Upd (fun b => V.own (.L a) = some b) wq v) (fun i => i != 12) [(0, true), (1, true), (2, true), (3, true), (4, true), (5, true), (6, true), (7, true), (8, true), (9, false), (10, true), (11, true), (12, false)] (by exact rfl) (by kernel_rfl) (by intro c a d v w h; cases d <;> exact h) ?_
  have hS : Upd (fun b => V.own (.L a) = some b) wq wq.drew := (Upd.refl _ wq).drew
  iterate 9 (((apply seq_val2 rfl (by rfl); (focus (intro w' hS'; have s0 := hS'.cell na hoN; have s1 := hS'.cell nb hoN; go_simp; (first | done | exact rfl | (rw [if_pos (by omega)]; done)))); (focus exact hS))); (try simp only [Act.put, zzT, zzO, zzS]))
  refine seq_loud2 rfl (fun K hK => ?_)
  rw [if_pos (by rfl)]; refine wp_append_rows _ _ _ 22 rfl 9 i0 _ 16 Try.underlying22 hi hz0 hz3 hz4 rfl (.slice ava (T.get a).lines.length avc) rfl (strsC (T.get a).lines) (HRA.out.upd ((Upd.refl (fun _ => False) _).drew) (fun _ _ h => h)) (.slice bva (T.get b).lines.length bvc) rfl (strsC (T.get b).lines) (HRB.out.upd ((Upd.refl (fun _ => False) _).drew) (fun _ _ h => h)) (strsC_ones _) (by rw [QLA.out, QLB.out]; unfold maxLen; omega) (by rw [QLA.out, QLB.out]; omega) ?_; intro v3 w3 hr3 hu hn; have hS3 : Upd (fun b => V.own (.L a) = some b) wq w3 := hS.then hu (fun b _ e => by show (V.lv a).ownBlock = _; rw [HVA.out]; exact e); have hn3 : Near wq (V.lv a) v3 := fun b hb => (hn b hb).imp (fun e => by rw [HVA.out]; exact e) (fun e => e); clear hS; have hS := hS3; clear hS3 hu hn; obtain ⟨a3, n3, c3, e3⟩ : ∃ a n c, v3 = Value.slice a n c := (let ⟨a, c, e⟩ := hr3.form; ⟨a, _, c, e⟩); subst e3; have s33 := hS.cell na hoN; have f33 := free_of (hS.heap kN hoN) (a * 3); refine hK _ _ (fun _ => hS) ?_; clear hK K
  (try simp only [Act.put, zzT, zzO, zzS])
  iterate 2 (((apply seq_val2 rfl (by rfl); (focus (intro w' hS'; have s0 := hS'.cell na hoN; have s1 := hS'.cell nb hoN; go_simp; (first | done | exact rfl | (rw [if_pos (by omega)]; done)))); (focus exact hS))); (try simp only [Act.put, zzT, zzO, zzS]))
  refine seq_loud2 rfl (fun K hK => ?_)
  go_simp; refine hK _ _ (fun e => by cases e) ?_; clear hK K
  (try simp only [Act.put, zzT, zzO, zzS])
  refine seq_nil ?_
  obtain ⟨hU5, hb5⟩ := cell_setc (i := a * 3) hS kN hoN (.slice a3 n3 c3)
  obtain ⟨w5, hw5⟩ : ∃ w5, w3.setCell ⟨V.gN, a * 3, none⟩ (.slice a3 n3 c3) = w5 := ⟨_, rfl⟩
  rw [hw5] at hU5 hb5 ⊢
  obtain ⟨V5, t5, f5, g5, p5⟩ := H1.out.lput ha ((T.get a).lines ++ (T.get b).lines) hS (by rw [show strsC ((T.get a).lines ++ (T.get b).lines) = strsC (T.get a).lines ++ strsC (T.get b).lines from List.map_append]; exact hr3) hn3 hU5 hb5
  obtain ⟨T5, hT5⟩ : ∃ T5, T.put a { T.get a with lines := (T.get a).lines ++ (T.get b).lines } = T5 := ⟨_, rfl⟩
  have ha5 : a < T5.nodes.length := by rw [← hT5, put_len]; exact ha
  have hb5' : b < T5.nodes.length := by rw [← hT5, put_len]; exact hb
  have hga5 : T5.get a = { T.get a with lines := (T.get a).lines ++ (T.get b).lines } := by rw [← hT5, get_put T _ ha, if_pos rfl]
  have hgb5 : T5.get b = T.get b := by rw [← hT5, get_put T _ ha, if_neg (fun e => hab e.symm)]
  rw [hT5] at t5
  have HT5 := Lib.hid t5
  have HF5 : Hid (Frm w V w5 V5) := Lib.hid (HQ1.out.trans f5)
  have HTE := Lib.hid hT5
  have HGA := Lib.hid hga5
  have HG5 := Lib.hid g5
  have HP5 := Lib.hid p5
  obtain ⟨xa, xc, ex⟩ := (t5.kid a ha5).form
  obtain ⟨ya, yc, ey⟩ := (t5.kid b hb5').form
  rw [hga5] at ex
  rw [hgb5] at ey
  rw [show (natsC { T.get a with lines := (T.get a).lines ++ (T.get b).lines : ND }.kids).length = (T.get a).kids.length from QKA.out] at ex
  rw [QKB.out] at ey
  have HXA := Lib.hid ex
  have HRX : Hid (Row w5 3 (.slice xa (T.get a).kids.length xc) (natsC (T5.get a).kids)) := Lib.hid (by have := t5.kid a ha5; rw [ex] at this; exact this)
  have HRY : Hid (Row w5 3 (.slice ya (T.get b).kids.length yc) (natsC (T.get b).kids)) := Lib.hid (by have := t5.kid b hb5'; rw [ey, hgb5] at this; exact this)
  have QKA5 : Hid ((natsC (T5.get a).kids).length = (T.get a).kids.length) := Lib.hid (by rw [hga5]; exact QKA.out)
  have kN5 : w5.heap[V.gN]? = some (.cells V5.C 61 (0, 0)) := by rw [← g5]; exact t5.row
  have xa5 : w5.cell? ⟨V.gN, a * 3 + 1, none⟩ = some (.slice xa (T.get a).kids.length xc) := cell_of kN5 _ (by rw [← ex]; exact (t5.cel a ha5).2.1)
  have yb5 : w5.cell? ⟨V.gN, b * 3 + 1, none⟩ = some (.slice ya (T.get b).kids.length yc) := cell_of kN5 _ (by rw [← ey]; exact (t5.cel b hb5').2.1)
  clear hoN
  have hoN : ¬ V5.own (.K a) = some V.gN := fun e => by have := t5.inj (.K a) .N V.gN e (by rw [← g5]; rfl); cases this
  clear t5 f5 g5 p5 hT5 hga5 hgb5 ex ey hU5 hb5 hw5 hr3 hn3 hS s33 f33 na nb kN
  go_upto_region 4 with fail
  refine wp_region_seq (fun v => Upd (fun b => V5.own (.K a) = some b) w5 v) (fun i => i != 12) [(0, true), (1, true), (2, true), (3, true), (4, true), (5, true), (6, true), (7, true), (8, true), (9, false), (10, true), (11, true), (12, false)] (by exact rfl) (by kernel_rfl) (by intro c a d v w h; cases d <;> exact h) ?_
  have hS : Upd (fun b => V5.own (.K a) = some b) w5 w5.drew := (Upd.refl _ w5).drew
  iterate 9 (((apply seq_val2 rfl (by rfl); (focus (intro w' hS'; have s0 := hS'.cell xa5 hoN; have s1 := hS'.cell yb5 hoN; go_simp; (first | done | exact rfl | (rw [if_pos (by omega)]; done)))); (focus exact hS))); (try simp only [Act.put, zzT, zzO, zzS]))
  refine seq_loud2 rfl (fun K hK => ?_)
  rw [if_pos (by rfl)]; refine wp_append_rows _ _ _ 42 rfl 3 i1 _ 8 Try.underlying42 hj hy0 hy3 hy4 rfl (.slice xa (T.get a).kids.length xc) rfl (natsC (T5.get a).kids) (HRX.out.upd ((Upd.refl (fun _ => False) _).drew) (fun _ _ h => h)) (.slice ya (T.get b).kids.length yc) rfl (natsC (T.get b).kids) (HRY.out.upd ((Upd.refl (fun _ => False) _).drew) (fun _ _ h => h)) (natsC_ones _) (by rw [QKA5.out, QKB.out]; unfold maxLen; omega) (by rw [QKA5.out, QKB.out]; omega) ?_; intro v3 w3 hr3 hu hn; have hS3 : Upd (fun b => V5.own (.K a) = some b) w5 w3 := hS.then hu (fun b _ e => by show (V5.kv a).ownBlock = _; rw [HXA.out]; exact e); have hn3 : Near w5 (V5.kv a) v3 := fun b hb => (hn b hb).imp (fun e => by rw [HXA.out]; exact e) (fun e => e); clear hS; have hS := hS3; clear hS3 hu hn; obtain ⟨a3, n3, c3, e3⟩ : ∃ a n c, v3 = Value.slice a n c := (let ⟨a, c, e⟩ := hr3.form; ⟨a, _, c, e⟩); subst e3; have s33 := hS.cell xa5 hoN; have f33 := free_of (hS.heap kN5 hoN) (a * 3 + 1); refine hK _ _ (fun _ => hS) ?_; clear hK K
  (try simp only [Act.put, zzT, zzO, zzS])
  iterate 2 (((apply seq_val2 rfl (by rfl); (focus (intro w' hS'; have s0 := hS'.cell xa5 hoN; have s1 := hS'.cell yb5 hoN; go_simp; (first | done | exact rfl | (rw [if_pos (by omega)]; done)))); (focus exact hS))); (try simp only [Act.put, zzT, zzO, zzS]))
  refine seq_loud2 rfl (fun K hK => ?_)
  go_simp; refine hK _ _ (fun e => by cases e) ?_; clear hK K
  (try simp only [Act.put, zzT, zzO, zzS])
  refine seq_nil ?_
  obtain ⟨hU6, hb6⟩ := cell_setc (i := a * 3 + 1) hS kN5 hoN (.slice a3 n3 c3)
  obtain ⟨w6, hw6⟩ : ∃ w6, w3.setCell ⟨V.gN, a * 3 + 1, none⟩ (.slice a3 n3 c3) = w6 := ⟨_, rfl⟩
  rw [hw6] at hU6 hb6 ⊢
  obtain ⟨V6, t6, f6, g6, p6⟩ := HT5.out.kput ha5 ((T5.get a).kids ++ (T.get b).kids) hS (by rw [show natsC ((T5.get a).kids ++ (T.get b).kids) = natsC (T5.get a).kids ++ natsC (T.get b).kids from List.map_append]; exact hr3) hn3 (by rw [HG5.out]; exact hU6) (by rw [HG5.out]; exact hb6)
  rw [HGA.out, ← HTE.out, put_put] at t6
  have t6' : TA w6 V6 T6 := by rw [← HTE6.out]; exact t6
  have HT6 := Lib.hid t6'
  have HF6 : Hid (Frm w V w6 V6) := Lib.hid (HF5.out.trans f6)
  have HB6 : Hid (V6.bT = V.bT) := Lib.hid HF6.out.2.1
  have HG6 : Hid (V6.gN = V.gN) := Lib.hid (g6.trans HG5.out)
  have HP6 : Hid (V6.kv k = V.kv k) := Lib.hid ((p6 k (fun e => hak e.symm)).2.trans (HP5.out k (fun e => hak e.symm)).2)
  clear t6 t6' f6 g6 p6 hU6 hb6 hw6 hr3 hn3 hS s33 f33 xa5 yb5 kN5 HTE HGA
  go_upto_region 6 with (first
    | (go_at_call 37; refine (drop_at HB6.out HT6.out hb6' HL6.out).mono ?_; rintro e w7 ⟨rfl, hm⟩; have HM := Lib.hid hm; clear hm))
  obtain ⟨V7, t7, f7, g7, p7⟩ := HM.out
  have HT7 := Lib.hid t7
  have HF7 : Hid (Frm w V w7 V7) := Lib.hid (HF6.out.trans f7)
  have HB7 : Hid (V7.bT = V.bT) := Lib.hid HF7.out.2.1
  have HG7 : Hid (V7.gN = V.gN) := Lib.hid (g7.trans HG6.out)
  have hdl : (T6.drop b).nodes.length = T6.nodes.length := put_len T6 b .zero
  have hk7 : k < (T6.drop b).nodes.length := by rw [hdl]; exact HK6.out.1
  have hgk7 : (T6.drop b).get k = T.get k := by
    have := get_put T6 .zero hb6' k
    rw [if_neg (fun e => hbk e.symm), HK6.out.2] at this
    exact this
  have ek7 : V7.kv k = .slice (some ⟨g, 0, none⟩) nk kc := (p7 k (fun e => hbk e.symm)).2.trans (HP6.out.trans HVK.out)
  have HR7 : Hid (Row w7 3 (.slice (some ⟨g, 0, none⟩) nk kc) (natsC (T.get k).kids)) := Lib.hid (by have := t7.kid k hk7; rw [ek7, hgk7] at this; exact this)
  have HV7 := Lib.hid ek7
  have HGK := Lib.hid hgk7
  have hcap7 := t7.cap
  have hmax7 := t7.max
  unfold maxLen at hmax7
  have kN7 : w7.heap[V.gN]? = some (.cells V7.C 61 (0, 0)) := by rw [← g7.trans HG6.out]; exact t7.row
  have m0 : w7.cell? ⟨V.bT, 0, none⟩ = some (.slice (some ⟨V.gN, 0, none⟩) (T6.drop b).nodes.length V7.cN) := by
    have := cell_of (t7.head_cells HB7.out) 0 rfl
    rw [g7.trans HG6.out] at this
    exact this
  have nk7 : w7.cell? ⟨V.gN, k * 3 + 1, none⟩ = some (.slice (some ⟨g, 0, none⟩) nk kc) := cell_of kN7 _ (by rw [← ek7]; exact (t7.cel k hk7).2.1)
  have hoT : ¬ V7.own (.K k) = some V.bT := fun e => by have := t7.inj (.K k) .T V.bT e (by rw [← HB7.out]; rfl); cases this
  clear hoN
  have hoN : ¬ V7.own (.K k) = some V.gN := fun e => by have := t7.inj (.K k) .N V.gN e (by rw [← g7.trans HG6.out]; rfl); cases this
  have hkl : n1 < (T.get k).kids.length := by rw [HNK.out]; exact hn1
  have hk37 : k * 3 + 3 ≤ V7.C.size := node_cells t7 hk7
  clear t7 f7 g7 p7 hdl hgk7 ek7 HM
  refine wp_region_seq (fun v => Upd (fun b => V7.own (.K k) = some b) w7 v) (fun i => i != 13) [(0, true), (1, true), (2, true), (3, true), (4, true), (5, true), (6, true), (7, true), (8, true), (9, true), (10, false), (11, true), (12, true), (13, false)] (by exact rfl) (by kernel_rfl) (by intro c a d v w h; cases d <;> exact h) ?_
  have hS : Upd (fun b => V7.own (.K k) = some b) w7 w7.drew := (Upd.refl _ w7).drew
  iterate 10 (((apply seq_val2 rfl (by rfl); (focus (intro w' hS'; have s0 := hS'.cell m0 hoT; have s1 := hS'.cell nk7 hoN; go_simp; (first | done | exact rfl | (rw [if_pos (by omega)]; done)))); (focus exact hS))); (try simp only [Act.put, zzT, zzO, zzS]))
  apply seq_call2 (fun v w' => Row w' 3 v (natsC (delL (T.get k).kids n1)) ∧ Upd (fun b => V7.own (.K k) = some b) w7 w' ∧ Near w7 (V7.kv k) v) rfl (by rfl)
  focus (go_simp; (first | done | exact rfl | exact ⟨rfl, rfl⟩))
  focus (refine (delI_any (HR7.out.upd ((Upd.refl (fun _ => False) _).drew) (fun _ _ h => h)) n1 hkl).mono ?_; rintro e w' ⟨v', rfl, hr, hu, hn⟩; exact ⟨v', rfl, hr, hS.then hu (fun b _ e => by show (V7.kv k).ownBlock = _; rw [HV7.out]; exact e), fun b hb => (hn b hb).imp (fun e => by rw [HV7.out]; exact e) (fun e => e)⟩)
  rintro v3 w3 ⟨hr3, hS3, hn3⟩; clear hS; have hS := hS3; clear hS3; obtain ⟨a3, n3, c3, e3⟩ : ∃ a n c, v3 = Value.slice a n c := (let ⟨a, c, e⟩ := hr3.form; ⟨a, _, c, e⟩); subst e3; have s33 := hS.cell nk7 hoN; have f33 := free_of (hS.heap kN7 hoN) (k * 3 + 1); refine ⟨fun _ => hS, ?_⟩
  (try simp only [Act.put, zzT, zzO, zzS])
  iterate 2 (((apply seq_val2 rfl (by rfl); (focus (intro w' hS'; have s0 := hS'.cell m0 hoT; have s1 := hS'.cell nk7 hoN; go_simp; (first | done | exact rfl | (rw [if_pos (by omega)]; done)))); (focus exact hS))); (try simp only [Act.put, zzT, zzO, zzS]))
  refine seq_loud2 rfl (fun K hK => ?_)
  go_simp; refine hK _ _ (fun e => by cases e) ?_; clear hK K
  (try simp only [Act.put, zzT, zzO, zzS])
  refine seq_nil ?_
  obtain ⟨hU8, hb8⟩ := cell_setc (i := k * 3 + 1) hS kN7 hoN (.slice a3 n3 c3)
  obtain ⟨w8, hw8⟩ : ∃ w8, w3.setCell ⟨V.gN, k * 3 + 1, none⟩ (.slice a3 n3 c3) = w8 := ⟨_, rfl⟩
  rw [hw8] at hU8 hb8 ⊢
  obtain ⟨V8, t8, f8, g8, p8⟩ := HT7.out.kput hk7 (delL (T.get k).kids n1) hS hr3 hn3 (by rw [HG7.out]; exact hU8) (by rw [HG7.out]; exact hb8)
  rw [HGK.out] at t8
  have HT8 := Lib.hid t8
  have HF8 : Hid (Frm w V w8 V8) := Lib.hid (HF7.out.trans f8)
  have HB8 : Hid (V8.bT = V.bT) := Lib.hid HF8.out.2.1
  clear t8 f8 g8 p8 hU8 hb8 hw8 hr3 hn3 hS s33 f33 nk7 m0 kN7
  go_wp2_with (first
    | (go_at_call 31; refine (sum_at HB8.out HT8.out HFM.out).mono ?_; rintro e w9 ⟨rfl, hm⟩; obtain ⟨V9, t9, f9⟩ := hm; have HT9 := Lib.hid t9; have HF9 := Lib.hid (HF8.out.trans f9); clear t9 f9))
  go_end0
  exact ⟨rfl, TPost.of HF9.out HT9.out⟩
end Go.Proofs.Ytmklapbecdhnmaa
namespace Go.Proofs.Ytmklapbecdhnmaa
open Go.RowKit
/-- What a mend sees of a node's kids: the row, and the two variables that the closure holds. -/
structure Eye (w : World) (V : TV) (T : TD) (k nk g kc bK bB : Nat) : Prop where
  ta : TA w V T
  lt : k < T.nodes.length
  len : (T.get k).kids.length = nk
  row : Row w 3 (.slice (some ⟨g, 0, none⟩) nk kc) (natsC (T.get k).kids)
  cK : w.cell? ⟨bK, 0, none⟩ = some (.slice (some ⟨g, 0, none⟩) nk kc)
  cB : w.cell? ⟨bB, 0, none⟩ = some (.pointer (some ⟨V.bT, 0, none⟩))
  each : ∀ j ∈ (T.get k).kids, j < T.nodes.length
  siz : ∀ j ∈ (T.get k).kids, (T.get j).size ≤ 100
  le : nk ≤ 100
theorem Eye.newer {w w' : World} {V : TV} {T : TD} {k nk g kc bK bB : Nat} (h : Eye w V T k nk g kc bK bB) (hq : From w w') : Eye w' V T k nk g kc bK bB :=
  ⟨h.ta.upd (false_upd2 hq) (fun _ _ _ e => e), h.lt, h.len, h.row.upd (false_upd2 hq) (fun _ _ e => e), From.cell hq h.cK, From.cell hq h.cB, h.each, h.siz, h.le⟩
theorem clo_low {w : World} (bK bB : Nat) (i : Int) (hi : i < 0) :
    Calls Try.prog 59 #[.int .i64 i, .pointer (some ⟨bK, 0, none⟩), .pointer (some ⟨bB, 0, none⟩)] w fun e w' => e = .returned (.int .i64 0) ∧ From w w' := by
  go_enter Try.func59, Try.ntmps59
  go_wp2
  go_ret
  exact ⟨rfl, From.refl _⟩
theorem clo_high {w : World} {V : TV} {T : TD} {k nk g kc bK bB : Nat} (h : Eye w V T k nk g kc bK bB) (i : Nat) (hi : nk ≤ i) :
    Calls Try.prog 59 #[.int .i64 (i : Int), .pointer (some ⟨bK, 0, none⟩), .pointer (some ⟨bB, 0, none⟩)] w fun e w' => e = .returned (.int .i64 (T.sz (T.get k).kids i : Int)) ∧ From w w' := by
  have hz : T.sz (T.get k).kids i = 0 := by unfold TD.sz; rw [List.getElem?_eq_none (by rw [h.len]; exact hi)]
  rw [hz]
  have c := h.cK
  have g1 : ¬ (i : Int) < 0 := by omega
  have g2 : (nk : Int) ≤ (i : Int) := by omega
  go_enter Try.func59, Try.ntmps59
  go_wp2
  go_ret
  exact ⟨rfl, From.refl _⟩
set_option maxRecDepth 100000 in
set_option maxHeartbeats 4000000 in
theorem clo_in {w : World} {V : TV} {T : TD} {k nk g kc bK bB : Nat} (h : Eye w V T k nk g kc bK bB) (i : Nat) (hi : i < nk) :
    Calls Try.prog 59 #[.int .i64 (i : Int), .pointer (some ⟨bK, 0, none⟩), .pointer (some ⟨bB, 0, none⟩)] w fun e w' => e = .returned (.int .i64 (T.sz (T.get k).kids i : Int)) ∧ From w w' := by
  have hil : i < (T.get k).kids.length := by rw [h.len]; exact hi
  obtain ⟨j, hj⟩ : ∃ j, (T.get k).kids[i] = j := ⟨_, rfl⟩
  have hm : j ∈ (T.get k).kids := by rw [← hj]; exact List.getElem_mem hil
  have hz : T.sz (T.get k).kids i = (T.get j).lines.length + (T.get j).kids.length := by unfold TD.sz; rw [List.getElem?_eq_getElem hil, hj]; rfl
  rw [hz]
  have hjl := h.each j hm
  have hjs := h.siz j hm
  unfold ND.size at hjs
  have cK := h.cK
  have cB := h.cB
  have hle := h.le
  have e1 : w.cell? ⟨g, i, none⟩ = some (.int .i64 (j : Int)) := by
    have := h.row.cells0 i (natV j) (by rw [natsC, List.getElem?_map, List.getElem?_eq_getElem hil, hj]; rfl)
    rwa [Nat.zero_add] at this
  have c0 := cell_of (h.ta.head_cells rfl) 0 (v := .slice (some ⟨V.gN, 0, none⟩) T.nodes.length V.cN) rfl
  obtain ⟨la, lc, el⟩ := (h.ta.lin j hjl).form
  obtain ⟨ka, kc', ek⟩ := (h.ta.kid j hjl).form
  rw [show (strsC (T.get j).lines).length = (T.get j).lines.length by simp [strsC]] at el
  rw [show (natsC (T.get j).kids).length = (T.get j).kids.length by simp [natsC]] at ek
  have s0 := cell_of h.ta.row (j * 3) (v := .slice la (T.get j).lines.length lc) (by rw [← el]; exact (h.ta.cel j hjl).1)
  have s1 := cell_of h.ta.row (j * 3 + 1) (v := .slice ka (T.get j).kids.length kc') (by rw [← ek]; exact (h.ta.cel j hjl).2.1)
  have hcap := h.ta.cap
  have hmax := h.ta.max
  unfold maxLen at hmax
  have g1 : ¬ (i : Int) < 0 := by omega
  have g2 : ¬ (nk : Int) ≤ (i : Int) := by omega
  clear h hm hz el ek hil hj
  go_enter Try.func59, Try.ntmps59
  go_upto_region 3 with fail
  first | (refine wq_region_from_still ?_) | (refine wq_region_from (by kernel_rfl) (by kernel_rfl) ?_)
  repeat
    first
      | ((refine WQ_skip (by rfl) ?_); (try simp only [Act.put, zzT, zzO, zzS]))
      | (apply WQ_val (by rfl); (focus (intro w' hC; (have e01 := From.cell hC cK; have e02 := From.cell hC cB; have e03 := From.cell hC e1; have e04 := From.cell hC c0); go_simp; (first | done | exact rfl | (rw [if_pos (by omega)]; done) | (exact str_idx (by omega))))); (try simp only [Act.put, zzT, zzO, zzS]))
      | (apply WQ_call (by rfl); (focus (intro w' hC; go_simp; (first | done | exact rfl | exact ⟨rfl, rfl⟩))); (focus (intro w' hC; first | (exact From.of_calls hC (size_any V.gN (j * 3) la (T.get j).lines.length lc (From.cell hC s0) ka (T.get j).kids.length kc' (From.cell hC s1) (by omega) (by omega))))); (try simp only [Act.put, zzT, zzO, zzS]))
  refine WQ_nil ?_
  intro wq hq
  go_wp2
  go_ret
  exact ⟨by push_cast; rfl, hq⟩
/-- The closure, whole. -/
theorem clo_any {w : World} {V : TV} {T : TD} {k nk g kc bK bB : Nat} (h : Eye w V T k nk g kc bK bB) (i : Nat) :
    Calls Try.prog 59 #[.int .i64 (i : Int), .pointer (some ⟨bK, 0, none⟩), .pointer (some ⟨bB, 0, none⟩)] w fun e w' => e = .returned (.int .i64 (T.sz (T.get k).kids i : Int)) ∧ From w w' := by
  rcases Nat.lt_or_ge i nk with hi | hi
  · exact clo_in h i hi
  · exact clo_high h i hi
end Go.Proofs.Ytmklapbecdhnmaa
