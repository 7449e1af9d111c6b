/- Lemmas that the law's proof stands on, part 25: Tvs, Tvt. No condition. -/
import Derived.Test.YtmklapbecdhnmaaBaseA0
import Derived.Test.YtmklapbecdhnmaaBaseA24
set_option linter.all false
set_option linter.unusedVariables false
set_option linter.unusedSimpArgs false
namespace Go.Proofs.Ytmklapbecdhnmaa
open Go.RowKit
/-- Three trees, apart. -/
def Trip (w0 w : World) (bt br bu n : Nat) (L ls : List ByteArray) : Prop := ∃ O1 O2 O3, Both w bt br O1 O2 n L ∧ Upd (fun _ => False) w0 w ∧ (∀ k, O1 k ∨ O2 k → w0.heap.size ≤ k) ∧ Tr w bu O3 7201 ls ∧ ∀ k, O3 k → ¬ O1 k ∧ ¬ O2 k
theorem Trip.base {w0 w : World} {bt br bu n : Nat} {L ls : List ByteArray} (h : Trip w0 w bt br bu n L ls) : Upd (fun _ => False) w0 w := by
  obtain ⟨O1, O2, O3, a, b, c⟩ := h
  exact b
theorem does_t {w0 w : World} {bt br bu n : Nat} {L ls : List ByteArray} (h : Trip w0 w bt br bu n L ls) (hn : n + 24 * 52 ≤ 600000) (o : OpD) (v : Value) (hok : o.ok) (h50 : o.l.length ≤ 50) (hv : Rds (fun q => q < w0.heap.size) w0 v o.l) :
    Calls Try.prog 25 #[.pointer (some ⟨bt, 0, none⟩), .pointer (some ⟨br, 0, none⟩), .agg (opC o v)] w fun e w' => e = .returned (.bool true) ∧ Trip w0 w' bt br bu (n + 24 * 51) (opM o L) ls := by
  obtain ⟨O1, O2, O3, a, b, c, d, f⟩ := h
  refine (does_any a hn o v hok h50 (hv.upd b (fun _ _ e => e)) (fun k hk ho => by have := c k ho; omega)).mono ?_
  rintro e w' ⟨rfl, P1, P2, q1, q2, q3, q4⟩
  refine ⟨rfl, P1, P2, O3, q1, b.then q2 (fun k hk ho => by have := c k ho; omega), fun k hk => ?_, d.upd q2 (fun k hk e => e.elim (f k hk).1 (f k hk).2), fun k hk => ⟨fun e => ?_, fun e => ?_⟩⟩
  · have hsz := b.size
    rcases hk with e | e
    · rcases q3 k e with q | q
      · exact c k (.inl q)
      · omega
    · rcases q4 k e with q | q
      · exact c k (.inr q)
      · omega
  · rcases q3 k e with q | q
    · exact (f k hk).1 q
    · have := d.lt hk; omega
  · rcases q4 k e with q | q
    · exact (f k hk).2 q
    · have := d.lt hk; omega
set_option maxRecDepth 100000 in
set_option maxHeartbeats 16000000 in
theorem own_law {w : World} (la : Option Addr) (lc : Nat) (ls : List ByteArray) (hl : LinesIn w la lc ls) (oa : Option Addr) (oc : Nat) (ts : List OpD) (ho : OpsIn w oa ts) :
    Calls Try.prog 8 #[.slice la ls.length lc, .slice oa ts.length oc] w fun e w' => e = .returned (.bool true) ∧ Below w.heap.size w w' := by
  obtain ⟨hr, hs⟩ := hl
  have HR := Lib.hid hr
  have HSZ := Lib.hid hs
  have HO := Lib.hid ho
  have hlm := hr.len.2
  unfold maxLen at hlm
  have HH := Lib.hid (heavy_any (w := w) la lc ls.length oa oc ts ho (by omega))
  obtain ⟨b, hb⟩ : ∃ b, heavyM ls.length ts = b := ⟨_, rfl⟩
  rw [hb] at HH
  have hml := ho.1
  cases b with
  | true =>
    clear hr hs ho hb
    go_enter Try.func8, Try.ntmps8
    go_wp2_with (first
      | (go_at_call 23; refine HH.out.mono ?_; rintro e w1 ⟨rfl, hq1⟩)
      | (go_at_call 10; refine (known_any _).mono ?_; rintro e w2 ⟨rfl, hu2⟩))
    go_ret
    exact ⟨rfl, upd_base ((false_upd2 hq1).then hu2 (fun _ _ e => e))⟩
  | false =>
    obtain ⟨q1, q2, q3⟩ := heavy_no hb
    have HQ := Lib.hid q3
    obtain ⟨N, hN⟩ : ∃ N, ls.length = N := ⟨_, rfl⟩
    obtain ⟨m, hm⟩ : ∃ m, ts.length = m := ⟨_, rfl⟩
    rw [hN] at q1 HR HH hlm
    rw [hm] at q2 HH hml
    have HN := Lib.hid hN
    have HM := Lib.hid hm
    rw [hN, hm]
    clear hr hs ho hb hN hm q3
    go_enter Try.func8, Try.ntmps8
    go_upto_region 3 with (first
      | (go_at_call 23; refine HH.out.mono ?_; rintro e w1 ⟨rfl, hq1⟩)
      | (go_at_call 10; refine (known_any _).mono ?_; rintro e w2 ⟨rfl, hu2⟩))
    have HU2 : Hid (Upd (fun _ => False) w w2) := Lib.hid ((false_upd2 hq1).then hu2 (fun _ _ e => e))
    clear hq1 hu2
    go_upto_region 4 with (first
      | (go_at_call 11; refine (New_tr _ ls (HR.out.upd HU2.out (fun _ _ e => e)) HSZ.out (by rw [HN.out]; omega)).mono ?_; rintro e w3 ⟨bt, O1, rfl, ht, hu3, ho1⟩))
    have HU3 : Hid (Upd (fun _ => False) w w3) := Lib.hid (HU2.out.then hu3 (fun _ _ e => e))
    have HT3 := Lib.hid ht
    have HO1 : Hid (∀ k, O1 k → w.heap.size ≤ k) := Lib.hid (fun k hk => Nat.le_trans HU2.out.size (ho1 k hk))
    clear ht hu3 ho1
    go_upto_region 5 with (first
      | (go_at_call 11; refine (New_tr _ ls (HR.out.upd HU3.out (fun _ _ e => e)) HSZ.out (by rw [HN.out]; omega)).mono ?_; rintro e w4 ⟨bu, O3, rfl, ht, hu4, ho3⟩))
    have HU4 : Hid (Upd (fun _ => False) w w4) := Lib.hid (HU3.out.then hu4 (fun _ _ e => e))
    have HT4 := Lib.hid (HT3.out.newer hu4)
    have HX4 := Lib.hid ht
    have HO3 : Hid (∀ k, O3 k → w.heap.size ≤ k ∧ ¬ O1 k) := Lib.hid (fun k hk => ⟨Nat.le_trans HU3.out.size (ho3 k hk), fun e => by have := HT3.out.lt e; have := ho3 k hk; omega⟩)
    clear ht hu4 ho3 HT3
    have HLI := Lib.hid (Lines_tr HT4.out (by rw [HN.out]; omega))
    go_upto_region 8 with (first
      | (go_at_call 14; refine HLI.out.mono ?_; rintro e w5 ⟨v5, rfl, hr5, hu5, hn5⟩))
    have HU5 : Hid (Upd (fun _ => False) w w5) := Lib.hid (HU4.out.then hu5 (fun _ _ e => e))
    have HT5 := Lib.hid (HT4.out.newer hu5)
    have HX5 := Lib.hid (HX4.out.newer hu5)
    have HR5 := Lib.hid hr5
    have HN5 : Hid (∀ g, v5.ownBlock = some g → w.heap.size ≤ g ∧ ¬ O1 g ∧ ¬ O3 g) := Lib.hid (fun g hg => by
      have h1 := hn5 g hg
      exact ⟨Nat.le_trans HU4.out.size h1, fun e => by have := HT4.out.lt e; omega, fun e => by have := HX4.out.lt e; omega⟩)
    obtain ⟨a5, c5, e5⟩ := hr5.form
    rw [show (strsC ls).length = N by rw [strsC, List.length_map, HN.out]] at e5
    subst e5
    clear hr5 hu5 hn5 HT4 HX4 HLI
    go_wp2
    go_loopg [8] N (fun gk iv wr => ∃ j : Nat, ∃ L : List ByteArray, iv = .int .i64 (j : Int) ∧ j + gk = N ∧ Hid (Row wr 9 (.slice a5 N c5) (strsC L)) ∧ Hid (L.length = N ∧ ∀ k, j ≤ k → L[k]? = ls[k]?) ∧ Hid (Upd (fun q => Value.ownBlock (.slice a5 N c5) = some q) w5 wr))
    case atStart => exact ⟨0, ls, rfl, by omega, HR5, Lib.hid ⟨HN.out, fun _ _ => rfl⟩, Lib.hid (Upd.refl _ _)⟩
    case round =>
      obtain ⟨j, L, rfl, hgk, HRj, HLj, HUj⟩ := hrel
      by_cases hlt : j < N
      · have hjl : j < ls.length := by rw [HN.out]; exact hlt
        have hjL : j < L.length := by rw [HLj.out.1]; exact hlt
        have hx : L[j] = ls[j] := by
          have := HLj.out.2 j (Nat.le_refl _)
          rw [List.getElem?_eq_getElem hjL, List.getElem?_eq_getElem hjl] at this
          injection this
        have hxs : L[j].size ≤ 140737488351232 := by rw [hx]; exact HSZ.out _ (List.getElem_mem hjl)
        obtain ⟨g, cur, eg, hg, hnc, hcs, hcm, htk⟩ : ∃ g cur, a5 = some ⟨g, 0, none⟩ ∧ wr.heap[g]? = some (.cells cur 9 (0, 0)) ∧ N ≤ c5 ∧ c5 ≤ cur.size ∧ c5 ≤ maxLen ∧ cur.toList.take N = strsC L := by
          have hl : (strsC L).length = N := by rw [strsC, List.length_map]; exact HLj.out.1
          rcases HRj.out with ⟨_, e⟩ | ⟨g, cap, cur, a, b, c, d, e, f⟩
          · rw [e] at hl; simp at hl; omega
          · rw [hl] at a c f
            injection a with a1 a2 a3
            subst a3
            exact ⟨g, cur, a1, b, c, d, e, f⟩
        subst eg
        have e1 := HRj.out.cells0 j (.string L[j]) (by rw [strsC, List.getElem?_map, List.getElem?_eq_getElem hjL]; rfl)
        rw [Nat.zero_add] at e1
        obtain ⟨x, hxx⟩ : ∃ x, L[j] = x := ⟨_, rfl⟩
        rw [hxx] at e1 hxs
        have HG := Lib.hid hg
        have HTK := Lib.hid htk
        have hgm : j < cur.size := by omega
        clear hx hg htk hxx
        go_wp2_with (first
          | ((with_reducible refine stopSt 9 _ _ rfl ?_); unfold Stop; refine wpList_store_blk rfl 9 _ _ rfl g j rfl (.string (x ++ ⟨#[120]⟩)) rfl cur (cur.setIfInBounds j (.string (x ++ ⟨#[120]⟩))) _ HG.out (by show j + 1 ≤ cur.size; omega) (by kernel_rfl) rfl rfl ?_; intro w8 k8 hu8 hs8))
        go_roundg (gk - 1)
        case measure => omega
        case rel => exact ⟨j + 1, L.set j (x ++ ⟨#[120]⟩), by go_num, by omega, Lib.hid (by
          have := Row.set (e := 9) (by rw [strsC, List.length_map]; exact HLj.out.1) hnc hcs hcm HTK.out (.string (x ++ ⟨#[120]⟩)) k8
          rwa [show strsC (L.set j (x ++ ⟨#[120]⟩)) = (strsC L).set j (.string (x ++ ⟨#[120]⟩)) from List.map_set]), Lib.hid ⟨by rw [List.length_set]; exact HLj.out.1, fun k hk => by
          rw [List.getElem?_set_ne (by omega)]
          exact HLj.out.2 k (by omega)⟩, Lib.hid (HUj.out.then hu8 (fun q _ e => by rw [e]; rfl))⟩
      · have HT6 : Hid (Tr wr bt O1 (1 + 24 * ls.length) ls) := Lib.hid (HT5.out.upd HUj.out (fun q hq e => (HN5.out q e).2.1 hq))
        have HX6 : Hid (Tr wr bu O3 (1 + 24 * ls.length) ls) := Lib.hid (HX5.out.upd HUj.out (fun q hq e => (HN5.out q e).2.2 hq))
        have HU6 : Hid (Upd (fun _ => False) w wr) := Lib.hid (HU5.out.then HUj.out (fun q hq e => by have := (HN5.out q e).1; omega))
        clear HRj HLj HUj HT5 HX5 HU5 HR5 HN5 HU2 HU3 HU4
        go_upto_region 13 with (first
          | (go_at_call 24; refine (RNew_any _ ls (HR.out.upd HU6.out (fun _ _ e => e)) HSZ.out (by rw [HN.out]; omega)).mono ?_; rintro e w7 ⟨br, O2, rfl, hrt, hu7, ho2⟩))
        have HB7 : Hid (Trip w w7 bt br bu (7201) ls ls) := Lib.hid ⟨O1, O2, O3, ⟨(HT6.out.newer hu7).mono (by rw [HN.out]; omega), hrt, fun k h1 h2 => by have := HT6.out.lt h1; have := ho2 k h2; omega⟩, HU6.out.then hu7 (fun _ _ e => e), fun k hk => by
          rcases hk with e | e
          · exact HO1.out k e
          · exact Nat.le_trans HU6.out.size (ho2 k e), (HX6.out.newer hu7).mono (by rw [HN.out]; omega), fun k hk => ⟨(HO3.out k hk).2, fun e => by have := HX6.out.lt hk; have := ho2 k e; omega⟩⟩
        clear hrt hu7 ho2 HT6 HX6 HU6 HO1 HO3
        go_wp2
        go_loopg [10] m (fun gk iv wr => ∃ j : Nat, ∃ L : List ByteArray, iv = .int .i64 (j : Int) ∧ j + gk = m ∧ Hid (Trip w wr bt br bu (7201 + 1224 * j) L ls))
        case atStart => exact ⟨0, ls, rfl, by omega, HB7⟩
        case round =>
          obtain ⟨j, L, rfl, hgk, HB⟩ := hrel
          by_cases hlt : j < m
          · have hj : j < ts.length := by rw [HM.out]; exact hlt
            obtain ⟨b, o, v, rfl, hrv, hcl⟩ := HO.out.load j hj
            have hcl2 := hcl _ HB.out.base
            have HC := Lib.hid (does_t HB.out (by omega) ts[j] v (HO.out.2.1 _ (List.getElem_mem hj)) (HQ.out _ (List.getElem_mem hj)) hrv)
            obtain ⟨t, ht⟩ : ∃ t, ts[j] = t := ⟨_, rfl⟩
            rw [ht] at hcl2 HC
            unfold opC at hcl2 HC
            clear hcl hrv ht
            go_wp2_with (first
              | ((with_reducible refine stopLd 50 _ rfl ?_); unfold Stop; refine wpList_load_any rfl 50 _ rfl ⟨b, o + j * 5, none⟩ rfl [.int .u8 t.kind, .int .i64 t.i, .int .i64 t.n, .string t.s, v] _ hcl2 Try.underlying50 rfl (by kernel_rfl) ?_)
              | (go_at_call 25; refine HC.out.mono ?_; rintro e w5 ⟨rfl, hp5⟩))
            go_roundg (gk - 1)
            case measure => omega
            case rel => exact ⟨j + 1, _, by go_num, by omega, Lib.hid (by rw [show 7201 + 1224 * (j + 1) = 7201 + 1224 * j + 24 * 51 by omega]; exact hp5)⟩
          · obtain rfl : j = m := by omega
            obtain ⟨P1, P2, P3, a1, a2, a3, a4, a5⟩ := HB.out
            have HT := Lib.hid a1.1
            have HX := Lib.hid a4
            have HUW := Lib.hid a2
            obtain ⟨ra, rc, kR, hRD⟩ := a1.2.1.form
            obtain ⟨P, hP⟩ : ∃ P, L.length = P := ⟨_, rfl⟩
            rw [hP] at kR hRD
            have HRD := Lib.hid hRD
            have c0 := cell_of kR 0 (v := .slice ra P rc) rfl
            have HRW := Lib.hid (HR.out.upd HUW.out (fun _ _ e => e))
            clear a1 a2 a3 a4 a5 kR hRD hP
            go_wp2
            refine wp_region_seq (fun v => Upd (fun _ => False) wr v) (fun i => i != 99) [(0, true), (2, true), (1, false), (3, false), (4, true), (5, true), (7, true), (8, true), (9, true), (10, true), (6, false), (11, false), (12, true), (13, true)] (by exact rfl) (by kernel_rfl) (by intro c a d v w h; cases d <;> exact h) ?_
            have hS : Upd (fun _ => False) wr wr.drew := (Upd.refl _ _).drew
            iterate 2 (((apply seq_val2 rfl (by rfl); (focus (intro w' hS'; have s0 := hS'.cell c0 (fun e => e); go_simp; (first | done | exact rfl | (rw [if_pos (by omega)]; done)))); (focus exact hS))); (try simp only [Act.put, zzT, zzO, zzS]))
            apply seq_call2 (fun v w' => Row w' 9 v (strsC ls) ∧ Upd (fun _ => False) wr w') rfl (by rfl)
            focus (go_simp; (first | done | exact rfl | exact ⟨rfl, rfl⟩))
            focus (refine (Lines_tr (HX.out.newer hS) (by omega)).mono ?_; rintro e w' ⟨x, rfl, h1, h2, h3⟩; exact ⟨_, rfl, h1, hS.then h2 (fun _ _ e => e)⟩)
            rintro x w6 ⟨hr6, hS2⟩; clear hS; have hS := hS2; clear hS2; have HR6 := Lib.hid hr6; clear hr6; refine ⟨fun _ => hS, ?_⟩
            (try simp only [Act.put, zzT, zzO, zzS])
            apply seq_call2 (fun v w' => v = .bool true ∧ Upd (fun _ => False) wr w') rfl (by rfl)
            focus (go_simp; (first | done | exact rfl | exact ⟨rfl, rfl⟩))
            focus (refine (Same_any (Rds.of_row HR6.out) (HRW.out.upd hS (fun _ _ e => e)) rfl true (decide_eq_true rfl)).mono ?_; rintro e w' ⟨rfl, hq⟩; exact ⟨_, rfl, rfl, hS.then (false_upd2 hq) (fun _ _ e => e)⟩)
            rintro x w2 ⟨rfl, hS2⟩; clear hS; have hS := hS2; clear hS2; refine ⟨fun _ => hS, ?_⟩
            (try simp only [Act.put, zzT, zzO, zzS])
            iterate 6 ((first | (refine seq_skip2 rfl (by rfl) hS ?_) | (apply seq_val2 rfl (by rfl); (focus (intro w' hS'; have s0 := hS'.cell c0 (fun e => e); go_simp; (first | done | exact rfl | (rw [if_pos (by omega)]; done)))); (focus exact hS))); (try simp only [Act.put, zzT, zzO, zzS]))
            apply seq_call2 (fun v w' => Row w' 9 v (strsC L) ∧ Upd (fun _ => False) wr w') rfl (by rfl)
            focus (go_simp; (first | done | exact rfl | exact ⟨rfl, rfl⟩))
            focus (refine (Lines_tr (HT.out.newer hS) (by omega)).mono ?_; rintro e w' ⟨x, rfl, h1, h2, h3⟩; exact ⟨_, rfl, h1, hS.then h2 (fun _ _ e => e)⟩)
            rintro x w6 ⟨hr6, hS2⟩; clear hS; have hS := hS2; clear hS2; have HR7 := Lib.hid hr6; clear hr6; refine ⟨fun _ => hS, ?_⟩
            (try simp only [Act.put, zzT, zzO, zzS])
            apply seq_call2 (fun v w' => v = .bool true ∧ Upd (fun _ => False) wr w') rfl (by rfl)
            focus (go_simp; (first | done | exact rfl | exact ⟨rfl, rfl⟩))
            focus (refine (Same_any (Rds.of_row HR7.out) (HRD.out.upd hS (fun _ _ e => e)) rfl true (decide_eq_true rfl)).mono ?_; rintro e w' ⟨rfl, hq⟩; exact ⟨_, rfl, rfl, hS.then (false_upd2 hq) (fun _ _ e => e)⟩)
            rintro x w2 ⟨rfl, hS2⟩; clear hS; have hS := hS2; clear hS2; refine ⟨fun _ => hS, ?_⟩
            (try simp only [Act.put, zzT, zzO, zzS])
            iterate 2 (((apply seq_val2 rfl (by rfl); (focus (intro w' hS'; have s0 := hS'.cell c0 (fun e => e); go_simp; (first | done | exact rfl | (rw [if_pos (by omega)]; done)))); (focus exact hS))); (try simp only [Act.put, zzT, zzO, zzS]))
            refine seq_nil ?_
            have HUF := Lib.hid (HUW.out.then hS (fun _ _ e => e))
            clear hS c0
            go_wp2
            go_ret
            exact ⟨rfl, upd_base HUF.out⟩
end Go.Proofs.Ytmklapbecdhnmaa
namespace Go.Proofs.Ytmklapbecdhnmaa
open Go.RowKit
/-- Three trees, apart. -/
def Three (w0 w : World) (ba bb bc n : Nat) (La Lb Lc : List ByteArray) : Prop := ∃ O1 O2 O3, Tr w ba O1 7201 La ∧ Tr w bb O2 n Lb ∧ Tr w bc O3 n Lc ∧ Upd (fun _ => False) w0 w ∧ (∀ k, O1 k ∨ O2 k ∨ O3 k → w0.heap.size ≤ k) ∧ ∀ k, (O1 k → ¬ O2 k ∧ ¬ O3 k) ∧ (O2 k → ¬ O3 k)
theorem Three.two {w0 w w' : World} {ba bb bc n m : Nat} {La Lb Lc Lb' Lc' : List ByteArray} {O1 O2 O3 : Nat → Prop} (h1 : Tr w ba O1 7201 La) (h2 : Tr w bb O2 n Lb) (h3 : Tr w bc O3 n Lc) (hu : Upd (fun _ => False) w0 w) (hg : ∀ k, O1 k ∨ O2 k ∨ O3 k → w0.heap.size ≤ k) (hd : ∀ k, (O1 k → ¬ O2 k ∧ ¬ O3 k) ∧ (O2 k → ¬ O3 k)) {w1 : World}
    (q1 : TrP w bb O2 m Lb' w1) (q2 : TrP w1 bc O3 m Lc' w') : Three w0 w' ba bb bc m La Lb' Lc' := by
  obtain ⟨P2, a1, a2, a3⟩ := q1
  obtain ⟨P3, b1, b2, b3⟩ := q2
  have hs := hu.size
  have hs1 := a2.size
  have d1 : ∀ k, P2 k → ¬ O3 k := fun k hk e => by
    rcases a3 k hk with q | q
    · exact (hd k).2 q e
    · have := h3.lt e; omega
  have c1 : Tr w1 ba O1 7201 La := h1.upd a2 (fun k hk e => ((hd k).1 hk).1 e)
  refine ⟨O1, P2, P3, c1.upd b2 (fun k hk e => ((hd k).1 hk).2 e), a1.upd b2 d1, b1, (hu.then a2 (fun k hk e => by have := hg k (.inr (.inl e)); omega)).then b2 (fun k hk e => by have := hg k (.inr (.inr e)); omega), fun k hk => ?_, fun k => ⟨fun hk => ⟨fun e => ?_, fun e => ?_⟩, fun hk e => ?_⟩⟩
  · rcases hk with e | e | e
    · exact hg k (.inl e)
    · rcases a3 k e with q | q
      · exact hg k (.inr (.inl q))
      · omega
    · rcases b3 k e with q | q
      · exact hg k (.inr (.inr q))
      · omega
  · rcases a3 k e with q | q
    · exact ((hd k).1 hk).1 q
    · have := h1.lt hk; omega
  · rcases b3 k e with q | q
    · exact ((hd k).1 hk).2 q
    · have := h1.lt hk; omega
  · rcases b3 k e with q | q
    · exact d1 k hk q
    · have := a1.lt hk; omega
theorem insL_front {α : Type} (l : List α) (x : α) : insL l 0 x = x :: l := by simp [insL]
set_option maxRecDepth 100000 in
set_option maxHeartbeats 16000000 in
theorem grows_law {w : World} (la : Option Addr) (lc : Nat) (ls : List ByteArray) (hl : LinesIn w la lc ls) :
    Calls Try.prog 3 #[.slice la ls.length lc] w fun e w' => e = .returned (.bool true) ∧ Below w.heap.size w w' := by
  obtain ⟨hr, hs⟩ := hl
  have HR := Lib.hid hr
  have HSZ := Lib.hid hs
  have hlm := hr.len.2
  unfold maxLen at hlm
  obtain ⟨N, hN⟩ : ∃ N, ls.length = N := ⟨_, rfl⟩
  rw [hN] at HR hlm
  have HN := Lib.hid hN
  rw [hN]
  clear hr hs hN
  by_cases q1 : 300 < N
  · go_enter Try.func3, Try.ntmps3
    go_wp2_with (first
      | (go_at_call 10; refine (known_any _).mono ?_; rintro e w2 ⟨rfl, hu2⟩))
    go_ret
    exact ⟨rfl, upd_base hu2⟩
  have q1i : ¬ (300 : Int) < (N : Int) := by omega
  go_enter Try.func3, Try.ntmps3
  go_upto_region 3 with (first
    | (go_at_call 10; refine (known_any _).mono ?_; rintro e w2 ⟨rfl, hu2⟩))
  have HU2 := Lib.hid hu2
  clear hu2
  go_upto_region 4 with (first
    | (go_at_call 11; refine (New_tr _ ls (HR.out.upd HU2.out (fun _ _ e => e)) HSZ.out (by rw [HN.out]; omega)).mono ?_; rintro e w3 ⟨ba, O1, rfl, ht, hu3, ho1⟩))
  have HU3 : Hid (Upd (fun _ => False) w w3) := Lib.hid (HU2.out.then hu3 (fun _ _ e => e))
  have HT3 := Lib.hid ht
  have HO1 : Hid (∀ k, O1 k → w.heap.size ≤ k) := Lib.hid (fun k hk => Nat.le_trans HU2.out.size (ho1 k hk))
  clear ht hu3 ho1
  go_upto_region 5 with (first
    | (go_at_call 11; refine (New_tr _ [] (Rds.nil (fun _ => False) w3) (fun s hs => by cases hs) (by decide)).mono ?_; rintro e w4 ⟨bb, O2, rfl, ht, hu4, ho2⟩))
  have HU4 : Hid (Upd (fun _ => False) w w4) := Lib.hid (HU3.out.then hu4 (fun _ _ e => e))
  have HT4 := Lib.hid (HT3.out.newer hu4)
  have HX4 := Lib.hid ht
  have HO2 : Hid (∀ k, O2 k → w.heap.size ≤ k ∧ ¬ O1 k) := Lib.hid (fun k hk => ⟨Nat.le_trans HU3.out.size (ho2 k hk), fun e => by have := HT3.out.lt e; have := ho2 k hk; omega⟩)
  clear ht hu4 ho2 HT3
  go_upto_region 6 with (first
    | (go_at_call 11; refine (New_tr _ [] (Rds.nil (fun _ => False) w4) (fun s hs => by cases hs) (by decide)).mono ?_; rintro e w5 ⟨bc, O3, rfl, ht, hu5, ho3⟩))
  have HB5 : Hid (Three w w5 ba bb bc 1 ls [] []) := Lib.hid ⟨O1, O2, O3, (HT4.out.newer hu5).mono (by rw [HN.out]; omega), HX4.out.newer hu5, ht, HU4.out.then hu5 (fun _ _ e => e), fun k hk => by
    rcases hk with e | e | e
    · exact HO1.out k e
    · exact (HO2.out k e).1
    · exact Nat.le_trans HU4.out.size (ho3 k e), fun k => ⟨fun hk => ⟨fun e => (HO2.out k e).2 hk, fun e => by have := HT4.out.lt hk; have := ho3 k e; omega⟩, fun hk e => by have := HX4.out.lt hk; have := ho3 k e; omega⟩⟩
  clear ht hu5 ho3 HT4 HX4 HO1 HO2 HU2 HU3 HU4
  go_wp2
  go_loopg [6] N (fun gk iv wr => ∃ j : Nat, iv = .int .i64 (j : Int) ∧ j + gk = N ∧ Hid (Three w wr ba bb bc (1 + 24 * j) ls (ls.take j) (ls.drop (N - j))))
  case atStart => exact ⟨0, rfl, by omega, Lib.hid (by rw [List.take_zero, Nat.sub_zero, List.drop_of_length_le (by rw [HN.out]; exact Nat.le_refl _)]; exact HB5.out)⟩
  case round =>
    obtain ⟨j, rfl, hgk, HB⟩ := hrel
    by_cases hlt : j < N
    · have hjl : j < ls.length := by rw [HN.out]; exact hlt
      have hkl : N - 1 - j < ls.length := by rw [HN.out]; omega
      obtain ⟨P1, P2, P3, a1, a2, a3, a4, a5, a6⟩ := HB.out
      obtain ⟨g, o, rfl, e1⟩ := (HR.out.upd a4 (fun _ _ e => e)).at j hjl
      obtain ⟨g2, o2, e0, e2⟩ := HR.out.at (N - 1 - j) hkl
      injection e0 with e0
      injection e0 with e0 e0'
      subst e0 e0'
      have hC1 := Insert_np (TrP.refl a2) (by omega) hjl HSZ.out
      have hC2 := fun (w1 : World) (h : Tr w1 bc P3 (1 + 24 * j) (ls.drop (N - j))) => Insert_tr h (by omega) ls[N - 1 - j] (HSZ.out _ (List.getElem_mem hkl)) 0
      have hins : insL (ls.drop (N - j)) (0 : Int).toNat ls[N - 1 - j] = ls.drop (N - (j + 1)) := by
        rw [show (0 : Int).toNat = 0 from rfl, insL_front, show N - j = N - 1 - j + 1 by omega, show N - (j + 1) = N - 1 - j by omega]
        exact (List.drop_eq_getElem_cons hkl).symm
      simp only [hins] at hC2
      obtain ⟨x, hx⟩ : ∃ x, ls[j] = x := ⟨_, rfl⟩
      obtain ⟨y, hy⟩ : ∃ y, ls[N - 1 - j] = y := ⟨_, rfl⟩
      rw [hx] at e1 hC1
      rw [hy] at e2
      simp only [hy] at hC2
      have HC1 := Lib.hid hC1
      have HC2 : Hid (∀ w1, Tr w1 bc P3 (1 + 24 * j) (ls.drop (N - j)) → Calls Try.prog 12 #[.pointer (some ⟨bc, 0, none⟩), .int .i64 0, .string y] w1 fun e w' => e = .returned (.bool true) ∧ TrP w1 bc P3 (1 + 24 * j + 24) (ls.drop (N - (j + 1))) w') := Lib.hid (fun w1 h => (hC2 w1 h).mono (fun e w' ⟨q1, q2⟩ => by
        rw [if_pos ⟨Int.le_refl _, by omega⟩] at q2
        rw [decide_eq_true ⟨Int.le_refl _, by omega⟩] at q1
        exact ⟨q1, q2⟩))
      have HD := Lib.hid (And.intro a1 (And.intro a2 (And.intro a3 (And.intro a4 (And.intro a5 a6)))))
      have hw1 : IntKind.i64.wrap ((N : Int) - 1) = (N : Int) - 1 := IntWalk.i64_in _ (by omega)
      have hw2 : IntKind.i64.wrap ((N : Int) - 1 - (j : Int)) = ((N - 1 - j : Nat) : Int) := by rw [IntWalk.i64_in _ (by omega)]; omega
      obtain ⟨q, hq⟩ : ∃ q, N - 1 - j = q := ⟨_, rfl⟩
      rw [hq] at hw2 e2 hkl
      have hqN : q < N := by omega
      clear a1 a2 a3 a4 a5 a6 hx hy hins hC1 hC2 hq
      have HE2 : Hid (∀ w', Upd (fun _ => False) w w' → w'.cell? ⟨g, o + q, none⟩ = some (.string y)) := Lib.hid (fun w' h => h.cell e2 (fun e => e))
      clear e2
      go_wp2_with (first
        | (go_at_call 12; (with_reducible refine HC1.out.mono ?_); rintro e w6 ⟨rfl, hp6⟩; have HP6 := Lib.hid hp6; have e2 := HE2.out w6 (by { obtain ⟨_, _, h, _⟩ := hp6; exact HD.out.2.2.2.1.then h (fun k hk e => by { have := HD.out.2.2.2.2.1 k (.inr (.inl e)); omega }) }); clear hp6)
        | (go_at_call 12; refine (HC2.out _ (HD.out.2.2.1.upd (by { obtain ⟨_, _, h, _⟩ := HP6.out; exact h }) (fun k h1 h2 => (HD.out.2.2.2.2.2 k).2 h2 h1))).mono ?_; rintro e w7 ⟨rfl, hp7⟩; have HP7 := Lib.hid hp7; clear hp7))
      go_roundg (gk - 1)
      case measure => omega
      case rel => exact ⟨j + 1, by go_num, by omega, Lib.hid (by
        obtain ⟨a1, a2, a3, a4, a5, a6⟩ := HD.out
        have := Three.two a1 a2 a3 a4 a5 a6 HP6.out HP7.out
        rw [show 1 + 24 * (j + 1) = 1 + 24 * j + 24 by omega]
        exact this)⟩
    · obtain rfl : j = N := by omega
      have hB := HB.out
      rw [Nat.sub_self, List.drop_zero, List.take_of_length_le (by rw [HN.out]; exact Nat.le_refl _)] at hB
      obtain ⟨P1, P2, P3, a1, a2, a3, a4, a5, a6⟩ := hB
      have HTa := Lib.hid a1
      have HTb := Lib.hid a2
      have HTc := Lib.hid a3
      have HUW := Lib.hid a4
      have HRW := Lib.hid (HR.out.upd a4 (fun _ _ e => e))
      obtain ⟨Z, hZ⟩ : ∃ Z, sizes ls = Z := ⟨_, rfl⟩
      have HZ := Lib.hid hZ
      clear a1 a2 a3 a4 a5 a6 hZ HB
      have HLI : Hid (∀ (w' : World) (b n : Nat) (O : Nat → Prop), Tr w' b O n ls → n ≤ 600000 → Calls Try.prog 14 #[.pointer (some ⟨b, 0, none⟩)] w' (LPost w' ls)) := Lib.hid (fun w' b n O h hn => Lines_tr h hn)
      have HBY : Hid (∀ (w' : World) (b n : Nat) (O : Nat → Prop), Tr w' b O n ls → Calls Try.prog 15 #[.pointer (some ⟨b, 0, none⟩)] w' fun e w'' => e = .returned (.int .i64 Z) ∧ w' = w'') := Lib.hid (fun w' b n O h => by rw [← HZ.out]; exact Bytes_tr h)
      go_upto_region 14 with (first
        | (go_at_call 14; (with_reducible refine (HLI.out _ _ _ _ HTa.out (by omega)).mono ?_); rintro e w6 ⟨x6, rfl, hr6, hu6, hn6⟩; replace HTa := Lib.hid (HTa.out.newer hu6); replace HTb := Lib.hid (HTb.out.newer hu6); replace HTc := Lib.hid (HTc.out.newer hu6); replace HRW := Lib.hid (HRW.out.upd hu6 (fun _ _ e => e)); replace HUW := Lib.hid (HUW.out.then hu6 (fun _ _ e => e)); have HR6 := Lib.hid hr6; clear hr6 hn6 hu6)
        | (go_at_call 14; (with_reducible refine (HLI.out _ _ _ _ HTb.out (by omega)).mono ?_); rintro e w6 ⟨x6, rfl, hr6, hu6, hn6⟩; replace HTa := Lib.hid (HTa.out.newer hu6); replace HTb := Lib.hid (HTb.out.newer hu6); replace HTc := Lib.hid (HTc.out.newer hu6); replace HRW := Lib.hid (HRW.out.upd hu6 (fun _ _ e => e)); replace HUW := Lib.hid (HUW.out.then hu6 (fun _ _ e => e)); have HR6 := Lib.hid hr6; clear hr6 hn6 hu6)
        | (go_at_call 14; (with_reducible refine (HLI.out _ _ _ _ HTc.out (by omega)).mono ?_); rintro e w6 ⟨x6, rfl, hr6, hu6, hn6⟩; replace HTa := Lib.hid (HTa.out.newer hu6); replace HTb := Lib.hid (HTb.out.newer hu6); replace HTc := Lib.hid (HTc.out.newer hu6); replace HRW := Lib.hid (HRW.out.upd hu6 (fun _ _ e => e)); replace HUW := Lib.hid (HUW.out.then hu6 (fun _ _ e => e)); have HR6 := Lib.hid hr6; clear hr6 hn6 hu6)
        | (go_at_call 13; refine (Same_any (Rds.of_row HR6.out) HRW.out rfl true (decide_eq_true rfl)).mono ?_; rintro e w7 ⟨rfl, hq7⟩; have hu7 := false_upd2 hq7; replace HTa := Lib.hid (HTa.out.newer hu7); replace HTb := Lib.hid (HTb.out.newer hu7); replace HTc := Lib.hid (HTc.out.newer hu7); replace HRW := Lib.hid (HRW.out.upd hu7 (fun _ _ e => e)); replace HUW := Lib.hid (HUW.out.then hu7 (fun _ _ e => e)); clear HR6 hq7 hu7))
      go_wp2_with (first
        | (go_at_call 15; (with_reducible refine (HBY.out _ _ _ _ HTa.out).mono ?_); rintro e w6 ⟨rfl, rfl⟩)
        | (go_at_call 15; (with_reducible refine (HBY.out _ _ _ _ HTb.out).mono ?_); rintro e w6 ⟨rfl, rfl⟩)
        | (go_at_call 15; (with_reducible refine (HBY.out _ _ _ _ HTc.out).mono ?_); rintro e w6 ⟨rfl, rfl⟩)
        | (go_at_call 17; obtain ⟨L6, hL6, hc6⟩ := Shape_tr HTb.out (by omega); (with_reducible refine hc6.mono ?_); clear hc6; rintro e w6 ⟨x6, rfl, hn6, hu6⟩; replace HTa := Lib.hid (HTa.out.newer hu6); replace HTb := Lib.hid (HTb.out.newer hu6); replace HTc := Lib.hid (HTc.out.newer hu6); replace HRW := Lib.hid (HRW.out.upd hu6 (fun _ _ e => e)); replace HUW := Lib.hid (HUW.out.then hu6 (fun _ _ e => e)); have HS6 := Lib.hid hn6; have HL6 := Lib.hid hL6; clear hn6 hu6 hL6)
        | (go_at_call 17; obtain ⟨L6, hL6, hc6⟩ := Shape_tr HTc.out (by omega); (with_reducible refine hc6.mono ?_); clear hc6; rintro e w6 ⟨x6, rfl, hn6, hu6⟩; replace HTa := Lib.hid (HTa.out.newer hu6); replace HTb := Lib.hid (HTb.out.newer hu6); replace HTc := Lib.hid (HTc.out.newer hu6); replace HRW := Lib.hid (HRW.out.upd hu6 (fun _ _ e => e)); replace HUW := Lib.hid (HUW.out.then hu6 (fun _ _ e => e)); have HS6 := Lib.hid hn6; have HL6 := Lib.hid hL6; clear hn6 hu6 hL6)
        | (go_at_call 16; refine (shaped_any _ _ _ HS6.out (by { have h := HL6.out.fits; rw [HN.out] at h; exact h }) (by omega)).mono ?_; rintro e w7 ⟨rfl, hq7⟩; have hu7 := false_upd2 hq7; replace HTa := Lib.hid (HTa.out.newer hu7); replace HTb := Lib.hid (HTb.out.newer hu7); replace HTc := Lib.hid (HTc.out.newer hu7); replace HRW := Lib.hid (HRW.out.upd hu7 (fun _ _ e => e)); replace HUW := Lib.hid (HUW.out.then hu7 (fun _ _ e => e)); clear HS6 HL6 hq7 hu7))
      go_ret
      exact ⟨rfl, upd_base HUW.out⟩
end Go.Proofs.Ytmklapbecdhnmaa
