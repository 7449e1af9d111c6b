/- Lemmas that the law's proof stands on, part 24: Tvq, Tvr. No condition. -/
import Derived.Test.YtmklapbecdhnmaaBaseA0
import Derived.Test.YtmklapbecdhnmaaBaseA23
set_option linter.all false
set_option linter.unusedVariables false
set_option linter.unusedSimpArgs false
namespace Go.Proofs.Ytmklapbecdhnmaa
open Go.RowKit
/-- Both trees, in blocks that came behind w0. -/
def BothF (w0 w : World) (bt br n : Nat) (ls : List ByteArray) : Prop := ∃ O1 O2, Both w bt br O1 O2 n ls ∧ Upd (fun _ => False) w0 w ∧ ∀ k, O1 k ∨ O2 k → w0.heap.size ≤ k
theorem BothF.tr {w0 w : World} {bt br n : Nat} {ls : List ByteArray} (h : BothF w0 w bt br n ls) : ∃ O, Tr w bt O n ls ∧ ∀ k, O k → w0.heap.size ≤ k := by
  obtain ⟨O1, O2, a, b, c⟩ := h
  exact ⟨O1, a.1, fun k hk => c k (.inl hk)⟩
theorem BothF.rt {w0 w : World} {bt br n : Nat} {ls : List ByteArray} (h : BothF w0 w bt br n ls) : ∃ O, RT w br O ls ∧ ∀ k, O k → w0.heap.size ≤ k := by
  obtain ⟨O1, O2, a, b, c⟩ := h
  exact ⟨O2, a.2.1, fun k hk => c k (.inr hk)⟩
theorem BothF.base {w0 w : World} {bt br n : Nat} {ls : List ByteArray} (h : BothF w0 w bt br n ls) : Upd (fun _ => False) w0 w := by
  obtain ⟨O1, O2, a, b, c⟩ := h
  exact b
theorem BothF.newer {w0 w w' : World} {bt br n : Nat} {ls : List ByteArray} (h : BothF w0 w bt br n ls) (hu : Upd (fun _ => False) w w') : BothF w0 w' bt br n ls := by
  obtain ⟨O1, O2, a, b, c⟩ := h
  exact ⟨O1, O2, a.newer hu, b.then hu (fun _ _ e => e), c⟩
theorem BothF.few {w0 w : World} {bt br n : Nat} {ls : List ByteArray} (h : BothF w0 w bt br n ls) : 12 * ls.length ≤ n := by
  obtain ⟨O, a, _⟩ := h.tr
  exact a.few
theorem upd_base {w0 w : World} (h : Upd (fun _ => False) w0 w) : Below w0.heap.size w0 w := h.below (Nat.le_refl _) (fun _ _ e => e)
theorem does_f {w0 w : World} {bt br n : Nat} {ls : List ByteArray} (h : BothF w0 w bt br n ls) (hn : n + 24 * 52 ≤ 600000) (o : OpD) (v : Value) (hok : o.ok) (h50 : o.l.length ≤ 50) (hv : Rds (fun q => q < w0.heap.size) w0 v o.l) :
    Calls Try.prog 25 #[.pointer (some ⟨bt, 0, none⟩), .pointer (some ⟨br, 0, none⟩), .agg (opC o v)] w fun e w' => e = .returned (.bool true) ∧ BothF w0 w' bt br (n + 24 * 51) (opM o ls) := by
  obtain ⟨O1, O2, a, b, c⟩ := h
  refine (does_any a hn o v hok h50 (hv.upd b (fun _ _ e => e)) (fun k hk ho => by have := c k ho; omega)).mono ?_
  rintro e w' ⟨rfl, P1, P2, q1, q2, q3, q4⟩
  refine ⟨rfl, P1, P2, q1, b.then q2 (fun k hk ho => by have := c k ho; omega), fun k hk => ?_⟩
  have hsz := b.size
  rcases hk with e | e
  · rcases q3 k e with q | q
    · exact c k (.inl q)
    · omega
  · rcases q4 k e with q | q
    · exact c k (.inr q)
    · omega
/-- A call as it lies in memory. -/
theorem OpsIn.load {w0 : World} {a : Option Addr} {ts : List OpD} (h : OpsIn w0 a ts) (i : Nat) (hi : i < ts.length) : ∃ b o v, a = some ⟨b, o, none⟩ ∧ Rds (fun q => q < w0.heap.size) w0 v ts[i].l ∧ ∀ w, Upd (fun _ => False) w0 w → ∀ j x, (opC ts[i] v).toList[j]? = some x → w.cell? ((⟨b, o + i * 5, none⟩ : Addr).add j) = some x := by
  obtain ⟨b, o, v, rfl, hb, e0, e1, e2, e3, e4, hr⟩ := h.2.2 i hi
  refine ⟨b, o, v, rfl, hr, fun w hu j x hj => ?_⟩
  rw [Addr.add_lit]
  unfold opC at hj
  match j, hj with
  | 0, hj => injection hj with hj; subst hj; exact hu.cell e0 (fun e => e)
  | 1, hj => injection hj with hj; subst hj; exact hu.cell e1 (fun e => e)
  | 2, hj => injection hj with hj; subst hj; exact hu.cell e2 (fun e => e)
  | 3, hj => injection hj with hj; subst hj; exact hu.cell e3 (fun e => e)
  | 4, hj => injection hj with hj; subst hj; exact hu.cell e4 (fun e => e)
set_option maxRecDepth 100000 in
set_option maxHeartbeats 16000000 in
theorem does_law {w : World} (la : Option Addr) (lc : Nat) (ls : List ByteArray) (hl : LinesIn w la lc ls) (oa : Option Addr) (oc : Nat) (ts : List OpD) (ho : OpsIn w oa ts) :
    Calls Try.prog 9 #[.slice la ls.length lc, .slice oa ts.length oc] w fun e w' => e = .returned (.bool true) ∧ Below w.heap.size w w' := by
  obtain ⟨hr, hs⟩ := hl
  have HR := Lib.hid hr
  have HSZ := Lib.hid hs
  have HO := Lib.hid ho
  have hlm := hr.len.2
  unfold maxLen at hlm
  have HH := Lib.hid (heavy_any (w := w) la lc ls.length oa oc ts ho (by omega))
  obtain ⟨b, hb⟩ : ∃ b, heavyM ls.length ts = b := ⟨_, rfl⟩
  rw [hb] at HH
  have hml := ho.1
  cases b with
  | true =>
    clear hr hs ho hb
    go_enter Try.func9, Try.ntmps9
    go_wp2_with (first
      | (go_at_call 23; refine HH.out.mono ?_; rintro e w1 ⟨rfl, hq1⟩)
      | (go_at_call 10; refine (known_any _).mono ?_; rintro e w2 ⟨rfl, hu2⟩))
    go_ret
    exact ⟨rfl, upd_base ((false_upd2 hq1).then hu2 (fun _ _ e => e))⟩
  | false =>
    obtain ⟨q1, q2, q3⟩ := heavy_no hb
    have HQ := Lib.hid q3
    obtain ⟨N, hN⟩ : ∃ N, ls.length = N := ⟨_, rfl⟩
    obtain ⟨m, hm⟩ : ∃ m, ts.length = m := ⟨_, rfl⟩
    rw [hN] at q1 HR HH hlm
    rw [hm] at q2 HH hml
    have HN := Lib.hid hN
    have HM := Lib.hid hm
    rw [hN, hm]
    clear hr hs ho hb hN hm q3
    go_enter Try.func9, Try.ntmps9
    go_upto_region 3 with (first
      | (go_at_call 23; refine HH.out.mono ?_; rintro e w1 ⟨rfl, hq1⟩)
      | (go_at_call 10; refine (known_any _).mono ?_; rintro e w2 ⟨rfl, hu2⟩))
    have HU2 : Hid (Upd (fun _ => False) w w2) := Lib.hid ((false_upd2 hq1).then hu2 (fun _ _ e => e))
    clear hq1 hu2
    go_upto_region 4 with (first
      | (go_at_call 11; refine (New_tr _ ls (HR.out.upd HU2.out (fun _ _ e => e)) HSZ.out (by rw [HN.out]; omega)).mono ?_; rintro e w3 ⟨bt, O1, rfl, ht, hu3, ho1⟩))
    have HU3 : Hid (Upd (fun _ => False) w w3) := Lib.hid (HU2.out.then hu3 (fun _ _ e => e))
    have HT3 := Lib.hid ht
    have HO1 : Hid (∀ k, O1 k → w.heap.size ≤ k) := Lib.hid (fun k hk => Nat.le_trans HU2.out.size (ho1 k hk))
    clear ht hu3 ho1
    go_upto_region 7 with (first
      | (go_at_call 24; refine (RNew_any _ ls (HR.out.upd HU3.out (fun _ _ e => e)) HSZ.out (by rw [HN.out]; omega)).mono ?_; rintro e w4 ⟨br, O2, rfl, hrt, hu4, ho2⟩))
    have HBF : Hid (BothF w w4 bt br (1 + 24 * ls.length) ls) := Lib.hid ⟨O1, O2, ⟨HT3.out.newer hu4, hrt, fun k h1 h2 => by have := HT3.out.lt h1; have := ho2 k h2; omega⟩, HU3.out.then hu4 (fun _ _ e => e), fun k hk => by
      rcases hk with e | e
      · exact HO1.out k e
      · exact Nat.le_trans HU3.out.size (ho2 k e)⟩
    clear hrt hu4 ho2 HT3
    go_wp2
    go_loopg [7] m (fun gk iv wr => ∃ j : Nat, ∃ L : List ByteArray, iv = .int .i64 (j : Int) ∧ j + gk = m ∧ Hid (BothF w wr bt br (7201 + 1224 * j) L))
    case atStart => exact ⟨0, ls, rfl, by omega, Lib.hid (by
      obtain ⟨P1, P2, a, b, c⟩ := HBF.out
      exact ⟨P1, P2, ⟨a.1.mono (by rw [HN.out]; omega), a.2⟩, b, c⟩)⟩
    case round =>
      obtain ⟨j, L, rfl, hgk, HB⟩ := hrel
      by_cases hlt : j < m
      · have hj : j < ts.length := by rw [HM.out]; exact hlt
        obtain ⟨b, o, v, rfl, hrv, hcl⟩ := HO.out.load j hj
        have hcl2 := hcl _ HB.out.base
        have HC := Lib.hid (does_f HB.out (by omega) ts[j] v (HO.out.2.1 _ (List.getElem_mem hj)) (HQ.out _ (List.getElem_mem hj)) hrv)
        obtain ⟨t, ht⟩ : ∃ t, ts[j] = t := ⟨_, rfl⟩
        rw [ht] at hcl2 HC
        unfold opC at hcl2 HC
        clear hcl hrv ht
        have c0 := hcl2 0 _ rfl
        have c1 := hcl2 1 _ rfl
        go_upto_region 11 with (first
          | ((with_reducible refine stopLd 50 _ rfl ?_); unfold Stop; refine wpList_load_any rfl 50 _ rfl ⟨b, o + j * 5, none⟩ rfl [.int .u8 t.kind, .int .i64 t.i, .int .i64 t.n, .string t.s, v] _ hcl2 Try.underlying50 rfl (by kernel_rfl) ?_)
          | (go_at_call 25; refine HC.out.mono ?_; rintro e w5 ⟨rfl, hp5⟩))
        clear c0 c1 hcl2
        obtain ⟨M, hM⟩ : ∃ M, opM t L = M := ⟨_, rfl⟩
        rw [hM] at hp5
        have HB5 := Lib.hid hp5
        clear hM hp5
        obtain ⟨P1, ht, _⟩ := HB5.out.tr
        obtain ⟨P2, hrt, _⟩ := HB5.out.rt
        obtain ⟨ra, rc, kR, hRD⟩ := hrt.form
        have HT := Lib.hid ht
        have HRT := Lib.hid hrt
        obtain ⟨P, hP⟩ : ∃ P, M.length = P := ⟨_, rfl⟩
        rw [hP] at kR hRD
        have HRD := Lib.hid hRD
        have HP := Lib.hid hP
        obtain ⟨Z, hZ⟩ : ∃ Z, sizes M = Z := ⟨_, rfl⟩
        have HZ := Lib.hid hZ
        have c0 := cell_of kR 0 (v := .slice ra P rc) rfl
        have hnn : 7201 + 1224 * j + 24 * 51 ≤ 600000 := by omega
        clear ht hrt hRD hP hZ kR
        refine wp_region_seq (fun v => Upd (fun _ => False) w5 v) (fun i => i != 99) [(0, true), (1, true), (2, true), (3, true), (5, true), (4, false), (6, false), (7, true), (8, true), (9, true), (10, true), (12, true), (11, false), (13, false), (14, true), (15, true), (16, true), (17, true), (19, true), (20, true), (21, true), (22, true), (18, false), (23, false), (24, true), (25, true)] (by exact rfl) (by kernel_rfl) (by intro c a d v w h; cases d <;> exact h) ?_
        have hS : Upd (fun _ => False) w5 w5.drew := (Upd.refl _ _).drew
        iterate 5 ((first | (refine seq_skip2 rfl (by rfl) hS ?_) | (apply seq_val2 rfl (by rfl); (focus (intro w' hS'; have s0 := hS'.cell c0 (fun e => e); go_simp; (first | done | exact rfl | (rw [if_pos (by omega)]; done)))); (focus exact hS))); (try simp only [Act.put, zzT, zzO, zzS]))
        apply seq_call2 (fun v w' => v = .int .i64 (P : Int) ∧ Upd (fun _ => False) w5 w') rfl (by rfl)
        focus (go_simp; (first | done | exact rfl | exact ⟨rfl, rfl⟩))
        focus (refine (HP.out ▸ Len_tr (HT.out.newer hS)).mono ?_; rintro e w' ⟨rfl, hq⟩; exact ⟨_, rfl, rfl, hS.then (false_upd2 hq) (fun _ _ e => e)⟩)
        rintro x w2 ⟨rfl, hS2⟩; clear hS; have hS := hS2; clear hS2; refine ⟨fun _ => hS, ?_⟩
        (try simp only [Act.put, zzT, zzO, zzS])
        apply seq_call2 (fun v w' => v = .int .i64 (P : Int) ∧ Upd (fun _ => False) w5 w') rfl (by rfl)
        focus (go_simp; (first | done | exact rfl | exact ⟨rfl, rfl⟩))
        focus (refine (HP.out ▸ RLen_any (HRT.out.newer hS)).mono ?_; rintro e w' ⟨rfl, hq⟩; exact ⟨_, rfl, rfl, hS.then (false_upd2 hq) (fun _ _ e => e)⟩)
        rintro x w2 ⟨rfl, hS2⟩; clear hS; have hS := hS2; clear hS2; refine ⟨fun _ => hS, ?_⟩
        (try simp only [Act.put, zzT, zzO, zzS])
        iterate 5 ((first | (refine seq_skip2 rfl (by rfl) hS ?_) | (apply seq_val2 rfl (by rfl); (focus (intro w' hS'; have s0 := hS'.cell c0 (fun e => e); go_simp; (first | done | exact rfl | (rw [if_pos (by omega)]; done)))); (focus exact hS))); (try simp only [Act.put, zzT, zzO, zzS]))
        apply seq_call2 (fun v w' => v = .int .i64 Z ∧ Upd (fun _ => False) w5 w') rfl (by rfl)
        focus (go_simp; (first | done | exact rfl | exact ⟨rfl, rfl⟩))
        focus (refine (HZ.out ▸ Bytes_tr (HT.out.newer hS)).mono ?_; rintro e w' ⟨rfl, rfl⟩; exact ⟨_, rfl, rfl, hS⟩)
        rintro x w2 ⟨rfl, hS2⟩; clear hS; have hS := hS2; clear hS2; refine ⟨fun _ => hS, ?_⟩
        (try simp only [Act.put, zzT, zzO, zzS])
        apply seq_call2 (fun v w' => v = .int .i64 Z ∧ Upd (fun _ => False) w5 w') rfl (by rfl)
        focus (go_simp; (first | done | exact rfl | exact ⟨rfl, rfl⟩))
        focus (refine (HZ.out ▸ RBytes_any (HRT.out.newer hS)).mono ?_; rintro e w' ⟨rfl, hq⟩; exact ⟨_, rfl, rfl, hS.then (false_upd2 hq) (fun _ _ e => e)⟩)
        rintro x w2 ⟨rfl, hS2⟩; clear hS; have hS := hS2; clear hS2; refine ⟨fun _ => hS, ?_⟩
        (try simp only [Act.put, zzT, zzO, zzS])
        iterate 8 ((first | (refine seq_skip2 rfl (by rfl) hS ?_) | (apply seq_val2 rfl (by rfl); (focus (intro w' hS'; have s0 := hS'.cell c0 (fun e => e); go_simp; (first | done | exact rfl | (rw [if_pos (by omega)]; done)))); (focus exact hS))); (try simp only [Act.put, zzT, zzO, zzS]))
        apply seq_call2 (fun v w' => Row w' 9 v (strsC M) ∧ Upd (fun _ => False) w5 w') rfl (by rfl)
        focus (go_simp; (first | done | exact rfl | exact ⟨rfl, rfl⟩))
        focus (refine (Lines_tr (HT.out.newer hS) hnn).mono ?_; rintro e w' ⟨x, rfl, h1, h2, h3⟩; exact ⟨_, rfl, h1, hS.then h2 (fun _ _ e => e)⟩)
        rintro x w6 ⟨hr6, hS2⟩; clear hS; have hS := hS2; clear hS2; have HR6 := Lib.hid hr6; clear hr6; refine ⟨fun _ => hS, ?_⟩
        (try simp only [Act.put, zzT, zzO, zzS])
        apply seq_call2 (fun v w' => v = .bool true ∧ Upd (fun _ => False) w5 w') rfl (by rfl)
        focus (go_simp; (first | done | exact rfl | exact ⟨rfl, rfl⟩))
        focus (refine (Same_any (Rds.of_row HR6.out) (HRD.out.upd hS (fun _ _ e => e)) rfl true (decide_eq_true rfl)).mono ?_; rintro e w' ⟨rfl, hq⟩; exact ⟨_, rfl, rfl, hS.then (false_upd2 hq) (fun _ _ e => e)⟩)
        rintro x w2 ⟨rfl, hS2⟩; clear hS; have hS := hS2; clear hS2; refine ⟨fun _ => hS, ?_⟩
        (try simp only [Act.put, zzT, zzO, zzS])
        iterate 2 ((first | (refine seq_skip2 rfl (by rfl) hS ?_) | (apply seq_val2 rfl (by rfl); (focus (intro w' hS'; have s0 := hS'.cell c0 (fun e => e); go_simp; (first | done | exact rfl | (rw [if_pos (by omega)]; done)))); (focus exact hS))); (try simp only [Act.put, zzT, zzO, zzS]))
        refine seq_nil ?_
        have HB6 := Lib.hid (HB5.out.newer hS)
        clear hS c0 hnn
        go_wp2
        go_roundg (gk - 1)
        case measure => omega
        case rel => exact ⟨j + 1, M, by go_num, by omega, Lib.hid (by rw [show 7201 + 1224 * (j + 1) = 7201 + 1224 * j + 24 * 51 by omega]; exact HB6.out)⟩
      · obtain rfl : j = m := by omega
        have hp5 := HB.out
        clear HB
        go_wp2
        obtain ⟨M, hM⟩ : ∃ M, L = M := ⟨_, rfl⟩
        rw [hM] at hp5
        have HB5 := Lib.hid hp5
        clear hM hp5
        obtain ⟨P1, ht, _⟩ := HB5.out.tr
        obtain ⟨P2, hrt, _⟩ := HB5.out.rt
        obtain ⟨ra, rc, kR, hRD⟩ := hrt.form
        have HT := Lib.hid ht
        have HRT := Lib.hid hrt
        obtain ⟨P, hP⟩ : ∃ P, M.length = P := ⟨_, rfl⟩
        rw [hP] at kR hRD
        have HRD := Lib.hid hRD
        have HP := Lib.hid hP
        obtain ⟨Z, hZ⟩ : ∃ Z, sizes M = Z := ⟨_, rfl⟩
        have HZ := Lib.hid hZ
        have c0 := cell_of kR 0 (v := .slice ra P rc) rfl
        have hnn : 7201 + 1224 * j ≤ 600000 := by omega
        clear ht hrt hRD hP hZ kR
        refine wp_region_seq (fun v => Upd (fun _ => False) wr v) (fun i => i != 99) [(0, true), (2, true), (3, true), (4, true), (5, true), (1, false), (6, false), (7, true)] (by exact rfl) (by kernel_rfl) (by intro c a d v w h; cases d <;> exact h) ?_
        have hS : Upd (fun _ => False) wr wr.drew := (Upd.refl _ _).drew
        iterate 5 (((apply seq_val2 rfl (by rfl); (focus (intro w' hS'; have s0 := hS'.cell c0 (fun e => e); go_simp; (first | done | exact rfl | (rw [if_pos (by omega)]; done)))); (focus exact hS))); (try simp only [Act.put, zzT, zzO, zzS]))
        apply seq_call2 (fun v w' => Row w' 9 v (strsC M) ∧ Upd (fun _ => False) wr w') rfl (by rfl)
        focus (go_simp; (first | done | exact rfl | exact ⟨rfl, rfl⟩))
        focus (refine (Lines_tr (HT.out.newer hS) hnn).mono ?_; rintro e w' ⟨x, rfl, h1, h2, h3⟩; exact ⟨_, rfl, h1, hS.then h2 (fun _ _ e => e)⟩)
        rintro x w6 ⟨hr6, hS2⟩; clear hS; have hS := hS2; clear hS2; have HR6 := Lib.hid hr6; clear hr6; refine ⟨fun _ => hS, ?_⟩
        (try simp only [Act.put, zzT, zzO, zzS])
        apply seq_call2 (fun v w' => v = .bool true ∧ Upd (fun _ => False) wr w') rfl (by rfl)
        focus (go_simp; (first | done | exact rfl | exact ⟨rfl, rfl⟩))
        focus (refine (Same_any (Rds.of_row HR6.out) (HRD.out.upd hS (fun _ _ e => e)) rfl true (decide_eq_true rfl)).mono ?_; rintro e w' ⟨rfl, hq⟩; exact ⟨_, rfl, rfl, hS.then (false_upd2 hq) (fun _ _ e => e)⟩)
        rintro x w2 ⟨rfl, hS2⟩; clear hS; have hS := hS2; clear hS2; refine ⟨fun _ => hS, ?_⟩
        (try simp only [Act.put, zzT, zzO, zzS])
        (apply seq_val2 rfl (by rfl); (focus (intro w' hS'; have s0 := hS'.cell c0 (fun e => e); go_simp; (first | done | exact rfl | (rw [if_pos (by omega)]; done)))); (focus exact hS))
        (try simp only [Act.put, zzT, zzO, zzS])
        refine seq_nil ?_
        have HB6 := Lib.hid (HB5.out.newer hS)
        clear hS c0 hnn
        go_wp2
        go_ret
        exact ⟨rfl, upd_base HB6.out.base⟩
end Go.Proofs.Ytmklapbecdhnmaa
namespace Go.Proofs.Ytmklapbecdhnmaa
open Go.RowKit
/-- What the law's own count asks. -/
theorem Told.least {n : Nat} {L : List (List Nat)} (h : Told n L) (hn : n ≤ 1000000) : 0 < L.length ∧ (1 < L.length → ∀ q, 2 + q ≤ L.length → 2 * 4 ^ q ≤ n) := by
  obtain ⟨h1, x, r, rfl, h2, h3, h4, h5, h6⟩ := h
  refine ⟨by simp, fun e q hq => ?_⟩
  have hr : r ≠ [] := by intro e2; subst e2; simp at e
  have := h5 hr
  rw [List.length_cons] at hq
  have h7 : 4 ^ q ≤ 4 ^ r.length := Nat.pow_le_pow_right (by decide) (by omega)
  omega
set_option maxRecDepth 100000 in
set_option maxHeartbeats 16000000 in
theorem shape_law {w : World} (la : Option Addr) (lc : Nat) (ls : List ByteArray) (hl : LinesIn w la lc ls) (oa : Option Addr) (oc : Nat) (ts : List OpD) (ho : OpsIn w oa ts) :
    Calls Try.prog 6 #[.slice la ls.length lc, .slice oa ts.length oc] w fun e w' => e = .returned (.bool true) ∧ Below w.heap.size w w' := by
  obtain ⟨hr, hs⟩ := hl
  have HR := Lib.hid hr
  have HSZ := Lib.hid hs
  have HO := Lib.hid ho
  have hlm := hr.len.2
  unfold maxLen at hlm
  have HH := Lib.hid (heavy_any (w := w) la lc ls.length oa oc ts ho (by omega))
  obtain ⟨b, hb⟩ : ∃ b, heavyM ls.length ts = b := ⟨_, rfl⟩
  rw [hb] at HH
  have hml := ho.1
  cases b with
  | true =>
    clear hr hs ho hb
    go_enter Try.func6, Try.ntmps6
    go_wp2_with (first
      | (go_at_call 23; refine HH.out.mono ?_; rintro e w1 ⟨rfl, hq1⟩)
      | (go_at_call 10; refine (known_any _).mono ?_; rintro e w2 ⟨rfl, hu2⟩))
    go_ret
    exact ⟨rfl, upd_base ((false_upd2 hq1).then hu2 (fun _ _ e => e))⟩
  | false =>
    obtain ⟨q1, q2, q3⟩ := heavy_no hb
    have HQ := Lib.hid q3
    obtain ⟨N, hN⟩ : ∃ N, ls.length = N := ⟨_, rfl⟩
    obtain ⟨m, hm⟩ : ∃ m, ts.length = m := ⟨_, rfl⟩
    rw [hN] at q1 HR HH hlm
    rw [hm] at q2 HH hml
    have HN := Lib.hid hN
    have HM := Lib.hid hm
    rw [hN, hm]
    clear hr hs ho hb hN hm q3
    go_enter Try.func6, Try.ntmps6
    go_upto_region 3 with (first
      | (go_at_call 23; refine HH.out.mono ?_; rintro e w1 ⟨rfl, hq1⟩)
      | (go_at_call 10; refine (known_any _).mono ?_; rintro e w2 ⟨rfl, hu2⟩))
    have HU2 : Hid (Upd (fun _ => False) w w2) := Lib.hid ((false_upd2 hq1).then hu2 (fun _ _ e => e))
    clear hq1 hu2
    go_upto_region 6 with (first
      | (go_at_call 11; refine (New_tr _ ls (HR.out.upd HU2.out (fun _ _ e => e)) HSZ.out (by rw [HN.out]; omega)).mono ?_; rintro e w3 ⟨bt, O1, rfl, ht, hu3, ho1⟩))
    have HU3 : Hid (Upd (fun _ => False) w w3) := Lib.hid (HU2.out.then hu3 (fun _ _ e => e))
    have HT3 := Lib.hid ht
    have HO1 : Hid (∀ k, O1 k → w.heap.size ≤ k) := Lib.hid (fun k hk => Nat.le_trans HU2.out.size (ho1 k hk))
    clear ht hu3 ho1
    go_upto_region 7 with (first
      | (go_at_call 24; refine (RNew_any _ ls (HR.out.upd HU3.out (fun _ _ e => e)) HSZ.out (by rw [HN.out]; omega)).mono ?_; rintro e w4 ⟨br, O2, rfl, hrt, hu4, ho2⟩))
    have HBF : Hid (BothF w w4 bt br (1 + 24 * ls.length) ls) := Lib.hid ⟨O1, O2, ⟨HT3.out.newer hu4, hrt, fun k h1 h2 => by have := HT3.out.lt h1; have := ho2 k h2; omega⟩, HU3.out.then hu4 (fun _ _ e => e), fun k hk => by
      rcases hk with e | e
      · exact HO1.out k e
      · exact Nat.le_trans HU3.out.size (ho2 k e)⟩
    clear hrt hu4 ho2 HT3
    go_wp2
    go_loopg [7] m (fun gk iv wr => ∃ j : Nat, ∃ L : List ByteArray, iv = .int .i64 (j : Int) ∧ j + gk = m ∧ Hid (BothF w wr bt br (7201 + 1224 * j) L))
    case atStart => exact ⟨0, ls, rfl, by omega, Lib.hid (by
      obtain ⟨P1, P2, a, b, c⟩ := HBF.out
      exact ⟨P1, P2, ⟨a.1.mono (by rw [HN.out]; omega), a.2⟩, b, c⟩)⟩
    case round =>
      obtain ⟨j, L, rfl, hgk, HB⟩ := hrel
      by_cases hlt : j < m
      · have hj : j < ts.length := by rw [HM.out]; exact hlt
        obtain ⟨b, o, v, rfl, hrv, hcl⟩ := HO.out.load j hj
        have hcl2 := hcl _ HB.out.base
        have HC := Lib.hid (does_f HB.out (by omega) ts[j] v (HO.out.2.1 _ (List.getElem_mem hj)) (HQ.out _ (List.getElem_mem hj)) hrv)
        obtain ⟨t, ht⟩ : ∃ t, ts[j] = t := ⟨_, rfl⟩
        rw [ht] at hcl2 HC
        unfold opC at hcl2 HC
        clear hcl hrv ht
        have c0 := hcl2 0 _ rfl
        have c1 := hcl2 1 _ rfl
        go_upto_region 11 with (first
          | ((with_reducible refine stopLd 50 _ rfl ?_); unfold Stop; refine wpList_load_any rfl 50 _ rfl ⟨b, o + j * 5, none⟩ rfl [.int .u8 t.kind, .int .i64 t.i, .int .i64 t.n, .string t.s, v] _ hcl2 Try.underlying50 rfl (by kernel_rfl) ?_)
          | (go_at_call 25; refine HC.out.mono ?_; rintro e w5 ⟨rfl, hp5⟩))
        clear c0 c1 hcl2
        obtain ⟨M, hM⟩ : ∃ M, opM t L = M := ⟨_, rfl⟩
        rw [hM] at hp5
        have HB5 := Lib.hid hp5
        obtain ⟨P1, ht, _⟩ := HB5.out.tr
        have hfw := HB5.out.few
        obtain ⟨S, hS, hcall⟩ := Shape_tr ht (by omega)
        have HC5 := Lib.hid hcall
        have HST := Lib.hid hS
        clear hM hp5 hcall ht
        go_upto_region 12 with (first
          | (go_at_call 17; refine HC5.out.mono ?_; rintro e w6 ⟨v6, rfl, hn6, hu6⟩))
        have HB6 := Lib.hid (HB5.out.newer hu6)
        have HN6 := Lib.hid hn6
        obtain ⟨P2, ht6, _⟩ := HB6.out.tr
        obtain ⟨Q, hQ⟩ : ∃ Q, M.length = Q := ⟨_, rfl⟩
        have HMQ := Lib.hid hQ
        rw [hQ] at hfw hS
        obtain ⟨hl0, hl1⟩ := hS.least (by omega)
        have hlen := Len_tr ht6
        rw [hQ] at hlen
        have HLE := Lib.hid hlen
        obtain ⟨p, hp⟩ : ∃ p, S.length = p := ⟨_, rfl⟩
        rw [hp] at hl0 hl1
        have HL1 := Lib.hid hl1
        have HSH : Hid (∀ w', From w6 w' → Calls Try.prog 16 #[v6, .int .i64 (Q : Int)] w' fun e w'' => e = .returned (.bool true) ∧ From w' w'') := Lib.hid (fun w' hq => shaped_any v6 S Q (HN6.out.newer (false_upd2 hq)) hS.fits (by omega))
        obtain ⟨vs, hrow, hvl, _⟩ := id HN6.out
        obtain ⟨va, vc, rfl⟩ := hrow.form
        rw [hvl, hp] at HSH ⊢
        have hpm : p ≤ 9223372036854775807 := by have := hrow.len; unfold maxLen at this; omega
        clear hlen ht6 hQ hrow hvl hp hl1 hS HN6 hn6 hu6
        go_upto_region 14 with (first
          | (go_at_call 22; refine HLE.out.mono ?_; rintro e w7 ⟨rfl, hq7⟩)
          | (go_at_call 16; refine (HSH.out _ hq7).mono ?_; rintro e w8 ⟨rfl, hq8⟩))
        have HB8 := Lib.hid ((HB6.out.newer (false_upd2 hq7)).newer (false_upd2 hq8))
        obtain ⟨e, he⟩ : ∃ e, p - 2 = e := ⟨_, rfl⟩
        have hpe : p ≤ 2 + e ∧ (e = 0 ∨ p = 2 + e) := by omega
        clear hq7 hq8 he HSH HLE
        obtain ⟨gz, hgz⟩ : ∃ gz, gk = gz + 1 := ⟨gk - 1, by omega⟩
        subst hgz
        go_wp2
        go_loopg [9, 10] e (fun gk yv kv wr => ∃ q y : Nat, kv = .int .i64 (2 + (q : Int)) ∧ yv = .int .i64 (y : Int) ∧ q + gk = e ∧ Hid (y = 2 * 4 ^ q) ∧ Hid (BothF w wr bt br (7201 + 1224 * j + 24 * 51) M))
        case atStart => exact ⟨0, 2, rfl, rfl, by omega, Lib.hid rfl, HB8⟩
        case round =>
          obtain ⟨q, y, rfl, rfl, hgq, HY, HB9⟩ := hrel
          have hy : 1 < p → 2 + q ≤ p → y ≤ Q := fun h1 h2 => by rw [HY.out]; exact HL1.out h1 q h2
          by_cases hlt2 : q < e
          · have hp2 : p = 2 + e := by omega
            have hy2 : 4 * y ≤ Q := by
              have := HL1.out (by omega) (q + 1) (by omega)
              rw [HY.out]
              rw [Nat.pow_succ] at this
              omega
            have gs : IntKind.i64.wrap (4 * (y : Int)) = ((4 * y : Nat) : Int) := by rw [IntWalk.i64_in _ (by omega)]; omega
            have gk2 : IntKind.i64.wrap (2 + (q : Int) + 1) = 2 + ((q + 1 : Nat) : Int) := by rw [IntWalk.i64_in _ (by omega)]; omega
            have gc : (2 + (q : Int)) < (p : Int) := by omega
            clear hp2 hy
            go_wp2
            go_roundg (gk - 1)
            case measure => omega
            case rel => exact ⟨q + 1, 4 * y, by first | rfl | (simp; omega), by simp, by omega, Lib.hid (by rw [HY.out, Nat.pow_succ]; omega), HB9⟩
          · have gc : ¬ (2 + (q : Int)) < (p : Int) := by omega
            obtain ⟨P3, ht9, _⟩ := HB9.out.tr
            have hM : M.length = Q := HMQ.out
            by_cases h1 : 1 < p
            · have hyQ := hy h1 (by omega)
              have hlen := Len_tr ht9
              rw [hM] at hlen
              have HLE := Lib.hid hlen
              have gs : IntKind.i64.wrap (4 * (y : Int)) = 4 * (y : Int) := IntWalk.i64_in _ (by omega)
              have gd : (4 * (y : Int)).tdiv 4 = (y : Int) := by rw [Int.tdiv_eq_ediv_of_nonneg (by omega)]; omega
              have gl : ¬ (Q : Int) < (y : Int) := by omega
              clear hlen ht9 hM hy
              go_wp2_with (first
                | (go_at_call 22; refine HLE.out.mono ?_; rintro e w7 ⟨rfl, hq7⟩))
              go_roundg gz
              case measure => omega
              case rel => exact ⟨j + 1, M, by go_num, by omega, Lib.hid (by rw [show 7201 + 1224 * (j + 1) = 7201 + 1224 * j + 24 * 51 by omega]; exact HB9.out.newer (false_upd2 hq7))⟩
            · clear ht9 hM hy
              go_wp2
              go_roundg gz
              case measure => omega
              case rel => exact ⟨j + 1, M, by go_num, by omega, Lib.hid (by rw [show 7201 + 1224 * (j + 1) = 7201 + 1224 * j + 24 * 51 by omega]; exact HB9.out)⟩
      · obtain rfl : j = m := by omega
        obtain ⟨P1, ht, _⟩ := HB.out.tr
        have hfw := HB.out.few
        obtain ⟨S, hS, hcall⟩ := Shape_tr ht (by omega)
        obtain ⟨Q, hQ⟩ : ∃ Q, L.length = Q := ⟨_, rfl⟩
        have HMQ := Lib.hid hQ
        rw [hQ] at hfw hS
        have HC5 : Hid (Calls Try.prog 17 #[.pointer (some ⟨bt, 0, none⟩)] wr fun e w' => ∃ va vl vc, e = .returned (.slice va vl vc) ∧ Nest w' wr.heap.size (.slice va vl vc) S ∧ Upd (fun _ => False) wr w') := Lib.hid (hcall.mono (fun e w' ⟨v', q1, q2, q3⟩ => by
          obtain ⟨vs, hrow, _⟩ := id q2
          obtain ⟨va, vc, rfl⟩ := hrow.form
          exact ⟨va, vs.length, vc, q1, q2, q3⟩))
        have HST := Lib.hid hS.fits
        have HLE : Hid (∀ w', BothF w w' bt br (7201 + 1224 * j) L → Calls Try.prog 22 #[.pointer (some ⟨bt, 0, none⟩)] w' fun e w'' => e = .returned (.int .i64 (Q : Int)) ∧ From w' w'') := Lib.hid (fun w' h => by
          obtain ⟨P2, ht6, _⟩ := h.tr
          have := Len_tr ht6
          rw [hQ] at this
          exact this)
        clear hcall hQ hS ht
        go_wp2_with (first
          | (go_at_call 17; refine HC5.out.mono ?_; rintro e w6 ⟨va, vl, vc, rfl, hn6, hu6⟩; have HB6 := Lib.hid (HB.out.newer hu6); have HN6 := Lib.hid hn6; clear hn6 hu6)
          | (go_at_call 22; refine (HLE.out _ HB6.out).mono ?_; rintro e w7 ⟨rfl, hq7⟩)
          | (go_at_call 16; refine (shaped_any _ S Q (HN6.out.newer (false_upd2 hq7)) HST.out (by omega)).mono ?_; rintro e w8 ⟨rfl, hq8⟩))
        go_ret
        exact ⟨rfl, upd_base ((HB6.out.newer (false_upd2 hq7)).newer (false_upd2 hq8)).base⟩
end Go.Proofs.Ytmklapbecdhnmaa
